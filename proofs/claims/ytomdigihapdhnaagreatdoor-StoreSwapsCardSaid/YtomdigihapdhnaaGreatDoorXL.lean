import Derived.CallsIn
import Derived.RangeFuncWrites
import Derived.RangeFuncLeaves
import Derived.RangeFuncBox
import Derived.Shelf.Abstract
import Derived.WalkKit
import Derived.OwnWalkIn
import Derived.TacticsInMore
import Derived.LoopNIn
import Derived.LoopIn
import Derived.Test.YtomdigihapdhnaaGreatDoorProg
import Derived.Test.YtomdigihapdhnaaGreatDoorXK
set_option linter.all false
set_option maxRecDepth 99999
set_option maxHeartbeats 0
open Go.IntKind(i64)
open Go.Proofs.Tryz
namespace Go.Proofs.YtomdigihapdhnaaGreatDoor
namespace SL
open Go
variable{ops:Array Oper}{c x y:Code}{id:Nat}
structure ag5(F:Fence):Prop where
 fn:∀ f,F.fn f
 depth:F.depth=none
 calls:∀ {P:Program} {n:Nat} {f:FuncId} {args:Array Value} {w:World} {R:Ending->World->Prop},Calls P f args w R->CallsIn F n P f args w R
theorem ag5.wide:ag5 Fence.wide:=⟨fun _=>trivial,rfl,fun h=>callsIn_wide.2 h⟩
theorem ag5.round(l:Nat):ag5 (Fence.wide.inRound l):=⟨fun _=>trivial,rfl,fun h=>(callsIn_wide.2 h:CallsIn Fence.wide _ _ _ _ _ _)⟩
structure pW(N:Nat)(ds:List Deferred)(fr:Fr)(a:Act):Prop where
 size:a.tmps.size=N
 defers:a.defers=ds
 has:∀ i v,look fr i=some v->a.tmps[i]?=some v
theorem xa.d{N:Nat}{fr:Fr}{a:Act}(h:xa N fr a):pW N [] fr a:=⟨h.size,h.defers,h.has⟩
theorem pW.agrees{N:Nat}{ds:List Deferred}{fr:Fr}{a:Act}(h:pW N ds fr a):vZ a.eval fr:=by
 have h':xa N fr {a with defers:=[]}:=⟨h.size,rfl,h.has⟩
 intro x v hx
 exact h'.agrees x v hx
theorem pW.put{N:Nat}{ds:List Deferred}{fr:Fr}{a:Act}(h:pW N ds fr a){d:Option Tmp}(hd:wU N d=true)(v:Value):pW N ds (qG d v fr) (a.put d v):=by
 have h':xa N fr {a with defers:=[]}:=⟨h.size,rfl,h.has⟩
 have k:=h'.put hd v
 cases d with
 | none=>exact h
 | some d=>exact⟨k.size,h.defers,k.has⟩
theorem pW.weaken{N:Nat}{ds:List Deferred}{fr fr':Fr}{a:Act}(h:pW N ds fr' a)(hl:qo fr fr'):pW N ds fr a:=⟨h.size,h.defers,fun i v e=>h.has i v (hl i v e)⟩
def arQ(B:World)(ro:AH)(N:Nat)(ds:List Deferred)(φ:AH)(Q:Exit->Fr->AH->Prop)(e:Exit)(a:Act)(w:World):= ∃fr I,Q e fr I/\Own B ro φ I w/\pW N ds fr a
section
variable{F:Fence}{n:Nat}{P:Program}{B:World}{ro:AH}{N:Nat}{ds:List Deferred}
def aiA(o:Oper):Bool:=match o.op with
 | .defer _=>false
 | _=>true
theorem wl.soundIn{o:Oper}{K:Fr->AH->Prop}{fr:Fr}{I φ:AH}{a:Act}{w:World}{next:Act->World->Prop}{Q:Exit->Act->World->Prop}
  (hF:ag5 F) (hnd:aiA o=true) (h:wl P B ro o K fr I) (hd:wU N o.dst=true) (ho:Own B ro φ I w) (hf:pW N ds fr a)
  (hk:∀ fr I a w,K fr I->Own B ro φ I w->pW N ds fr a->next a w):o.wpIn F n P a w next Q:=by
 obtain⟨x,w',I',hr,hq,ho'⟩:=ahH _ (h _ hf.agrees) ho
 refine⟨fun f _=>hF.fn f,?_⟩
 rw[Oper.semAt_eq _ _ _ (fun c e=>by unfold aiA at hnd;rw[e]at hnd;cases hnd),hr]
 cases x with
 | value v=>exact hk _ _ _ _ hq ho' (hf.put hd v)
 | skip=>exact hk _ _ _ _ hq ho' (hf.put hd undef)
 | enter f args=>
  refine⟨fun e=>(by rw[hF.depth]at e;cases e),hF.calls ?_⟩
  refine(hq φ w' ho').mono ?_
  rintro e w2 ⟨v,I2,rfl,hq2,ho2⟩
  exact hk _ _ _ _ hq2 ho2 (hf.put hd v)
 | _=>exact hq.elim
theorem am6{fr:Fr}{a:Act}(hf:pW N ds fr a){j t:Nat}{v:Value}(ht:(ops[j]?).bind (·.dst)=some t)(hl:look fr t=some v):
  yielded ops a.tmps j=match v with | .bool b=>some b | _=>none:=
 yielded_eq (N:=N) (a:={a with defers:=[]}) ⟨hf.size,rfl,hf.has⟩ ht hl
theorem acX.soundIn(hF:ag5 F){Q:Exit->Fr->AH->Prop}{φ:AH}(hnd:∀ (i:Nat) (o:Oper),ops[i]?=some o->aiA o=true)(l:List Nat):∀ {fr:Fr} {I:AH} {a:Act} {w:World},
  acX P B ro N ops (Q .normal) l fr I->Own B ro φ I w->pW N ds fr a->wpOpsIn F n P ops (arQ B ro N ds φ Q) l a w:=by
 induction l with
 | nil=>intro fr I a w h ho hf;exact⟨fr,I,h,ho,hf⟩
 | cons i rest ih=>
  intro fr I a w h ho hf
  simp only[acX]at h
  simp only[wpOpsIn]
  cases hi:ops[i]? with
  | none=>rw[hi]at h;exact ih h ho hf
  | some o=>
   rw[hi]at h
   obtain⟨hd,h⟩:=h
   dsimp only
   cases hg:o.guard with
   | none=>
    rw[hg]at h
    have hw:Region.wanted o (yielded ops a.tmps)=true:=by simp[Region.wanted,hg]
    rw[if_pos hw]
    exact wl.soundIn hF (hnd i o hi) h hd ho hf fun fr I a w hk ho hf=>ih hk ho hf
   | some g=>
    obtain⟨j,want⟩:=g
    rw[hg]at h
    obtain⟨t,v,ht,hl,h⟩:=h
    have hy:=am6 hf ht hl
    rcases h with⟨rfl,h⟩ | ⟨hv,h⟩
    .have hw:Region.wanted o (yielded ops a.tmps)=true:=by simp[Region.wanted,hg,hy]
     rw[if_pos hw]
     exact wl.soundIn hF (hnd i o hi) h hd ho hf fun fr I a w hk ho hf=>ih hk ho hf
    .have hw:¬ Region.wanted o (yielded ops a.tmps)=true:=by
      simp only[Region.wanted,hg,hy]
      cases v<;>simp
      rename_i b;intro e;subst e;exact hv rfl
     rw[if_neg hw]
     exact⟨fun f _=>hF.fn f,ih h ho (hf.put hd undef)⟩
end
def AWF(F:Fence)(n:Nat)(ds:List Deferred)(P:Program)(B:World)(ro:AH)(N:Nat)(c:Code)(Q:Exit->Fr->AH->Prop)(fr:Fr)(I:AH):Prop:=
 ∀φ w a,Own B ro φ I w->pW N ds fr a->c.wpIn F n P (arQ B ro N ds φ Q) a w
section
variable{F:Fence}{n:Nat}{ds:List Deferred}{P:Program}{B:World}{ro:AH}{N:Nat}{Q:Exit->Fr->AH->Prop}{fr:Fr}{I:AH}
theorem AWF.skip(h:Q .normal fr I):AWF F n ds P B ro N .skip Q fr I:=fun _ _ _ ho hf=>wpIn_skip ⟨fr,I,h,ho,hf⟩
theorem AWF.ret(h:Q .ret fr I):AWF F n ds P B ro N .ret Q fr I:=fun _ _ _ ho hf=>wpIn_ret ⟨fr,I,h,ho,hf⟩
theorem AWF.seq(h:AWF F n ds P B ro N x (ab8 (AWF F n ds P B ro N y Q) Q) fr I):AWF F n ds P B ro N (.seq x y) Q fr I:=by
 intro φ w a ho hf
 refine wpIn_seq (wpIn_mono (h φ w a ho hf) ?_)
 rintro e a' w' ⟨fr',I',hq,ho',hf'⟩
 cases e with
 | normal=>exact hq φ w' a' ho' hf'
 | _=>exact⟨fr',I',hq,ho',hf'⟩
theorem AWF.cond{c:Operand}{b:Bool}(hc:ql fr c=some (.bool b))(ht:b=true->AWF F n ds P B ro N x Q fr I)(hn:b=false->AWF F n ds P B ro N y Q fr I):AWF F n ds P B ro N (.cond c x y) Q fr I:=
 fun φ w a ho hf=>wpIn_cond_split (hf.agrees _ _ hc) (fun e=>ht e φ w a ho hf) (fun e=>hn e φ w a ho hf)
theorem AWF.block(h:AWF F n ds P B ro N c (adV id Q) fr I):AWF F n ds P B ro N (.block id c) Q fr I:=by
 intro φ w a ho hf
 refine wpIn_block (wpIn_mono (h φ w a ho hf) ?_)
 rintro e a' w' ⟨fr',I',hq,ho',hf'⟩
 cases e with
 | exit id'=>
  simp only[adV]at hq
  simp only[Exit.inBlock]
  split
  .rename_i e;rw[if_pos e]at hq;exact⟨fr',I',hq,ho',hf'⟩
  .rename_i e;rw[if_neg e]at hq;exact⟨fr',I',hq,ho',hf'⟩
 | _=>exact⟨fr',I',hq,ho',hf'⟩
theorem AWF.reg(hF:ag5 F)(hnd:ops.toList.all aiA=true)(h:qU P B ro N ops (wk (Q .normal)) ops.toList fr I):AWF F n ds P B ro N (.region id ops false) Q fr I:=by
 intro φ w a ho hf
 have h1:acX P B ro N ops ((fun e=>wk (Q e)) .normal) (List.range ops.size) fr I:=by
  rw[List.range_eq_range']
  exact ak2 ops.size 0 (by omega) h
 refine wpIn_mono (wpIn_region (acX.soundIn hF (Q:=fun e=>wk (Q e)) (fun i o hi=>?_) _ h1 ho hf)) ?_
 .have:=List.all_eq_true.1 hnd o (by
   rw[Array.getElem?_eq_some_iff]at hi
   obtain⟨hlt,rfl⟩:=hi
   simp)
  exact this
 .rintro e a' w' ⟨fr',I',⟨fr0,h1,h2⟩,h3,h4⟩
  exact⟨fr0,I',h2,h3,h4.weaken h1⟩
theorem AWF.mono{Q':Exit->Fr->AH->Prop}(h:AWF F n ds P B ro N c Q fr I)(hq:∀ e fr I,Q e fr I->Q' e fr I):AWF F n ds P B ro N c Q' fr I:=
 fun φ w a ho ha=>wpIn_mono (h φ w a ho ha) fun _ _ _ ⟨fr,I,h1,h2,h3⟩=>⟨fr,I,hq _ _ _ h1,h2,h3⟩
end
end SL
namespace SL
open Go
variable{body c:Code}{fr:Fr}{fn:Func}{D M rid:Nat}{Q:Value->AH->Prop}{w w':World}
section
variable{n:Nat}{P:Program}{B:World}{ro φ I:AH}{N:Nat}
theorem Own.keepBlocks(h:Own B ro φ I w)(ho:w'.os=w.os)(ht:w'.tape=w.tape)(hp:w'.output=w.output)
  (hs:∀ b o,I b=some o->w'.heap[b]?=w.heap[b]?) (hf:∀ b o,φ b=some o->w'.heap[b]?=w.heap[b]?) (hr:∀ b o,ro b=some o->w'.heap[b]?=w.heap[b]?):Own B ro φ I w':=
 ⟨ho.trans h.os,ht.trans h.tape,hp.trans h.output,fun b o e=>by obtain⟨h1,h2,h3⟩:=h.own b o e;exact⟨(hs b o e).trans h1,h2,h3⟩,
  fun b o e=>(hf b o e).trans (h.fr b o e),fun b o e=>(hr b o e).trans (h.ro b o e)⟩
def ad6(w:World)(I:AH):AH:=fun b=>match I b with
 | some _=>none
 | none=>w.heap[b]?
theorem Own.all(h:Own B ro φ I w):Own B ro (ad6 w I) I w:=by
 refine⟨h.os,h.tape,h.output,fun b o e=>?_,fun b o e=>?_,h.ro⟩
 .obtain⟨h1,_,h3⟩:=h.own b o e
  exact⟨h1,by simp[ad6,e],h3⟩
 .unfold ad6 at e
  split at e
  .cases e
  .exact e
theorem Own.unall{I':AH}(h:Own B ro φ I w)(k:Own B ro (ad6 w I) I' w'):Own B ro φ I' w':=by
 have hb:∀ b o,φ b=some o->ad6 w I b=some o:=fun b o e=>by
  unfold ad6
  cases hs:I b with
  | some x=>have:=(h.own b x hs).2.1;rw[e]at this;cases this
  | none=>exact h.fr b o e
 refine⟨k.os,k.tape,k.output,fun b o e=>?_,fun b o e=>k.fr b o (hb b o e),k.ro⟩
 obtain⟨h1,h2,h3⟩:=k.own b o e
 refine⟨h1,?_,h3⟩
 cases hp:φ b with
 | none=>rfl
 | some x=>rw[hb b x hp]at h2;cases h2
structure atT(I0:AH)(ks:List Nat)(J:AH->Prop)(I:AH)(e:Exit)(I':AH):Prop where
 norm:e= .normal
 old:∀ b o,I b=some o->∃ o',I' b=some o'
 go:∃ I'',HLe I'' I'/\J I''
theorem amx{α:Type}{g:Operand}{ps:Array Tmp}{d:Tmp}{src ty:Nat}{pos:String}{Q:Exit->Act->World->Prop}{a:Act}
  (hn:3<=n) {gf Bs:Nat} (eg:∀ args w,(callFunc gf args).run P w= .ok (.enter gf args) w)
  {encs:α->Array Value} {S Sp:List α->Prop}  (ks:List Nat)
  (hg:ql fr g=some (.func (.func gf) #[] #[.pointer (some ⟨Bs,0,none⟩)]))
  (hseq:SeqStopsK Fence.wide (n - 1) P gf #[.pointer (some ⟨Bs,0,none⟩)] encs (fun W W'=> ∀k∈ks,W'.heap[k]?=W.heap[k]?) S Sp M w)
  (hps:∀ x,(encs x).size=ps.size) (ho:Own B ro φ I w) (hf:xa N fr a)
  (J:List α->AH->Prop) (h0:J [] I)
  (hcell:∀ pre I',J pre I'->∀ b o,I' b=some o->Obj.isCells o=false->∃ o',I b=some o')
  (hkeep:∀ pre I',J pre I'->∀ k∈ks,∃o,I k=some o/\I' k=some o)
  (fr1:α->Fr)
  (hfr:∀ x,pW N [] (fr1 x) (Act.mk (((ps.zip (encs x)).foldl (fun t (p,v)=>t.setIfInBounds p v) a.tmps).setIfInBounds d (((ps.zip (encs x)).foldl (fun t (p,v)=>t.setIfInBounds p v) a.tmps).getD src undef)) []))
  (hbody:∀ (l:Nat) (pre:List α) (x:α) (I1:AH),J pre I1->pre.length<M->
   AWF (Fence.wide.inRound l) (n - 1 - 1) [] P B ro N body (fun e _ I2=>atT I ks (J (pre++[x])) I1 e I2) (fr1 x) I1)
  (hdone:∀ (D:Nat) (xs:List α) (W:World) (I':AH),φ D=none->ro D=none->S xs->J xs I'->Own B ro (upd φ D (.deferred (some []))) I' W->
   Q .normal {a with defers:={target:= .collected D,args:= #[]}::a.defers} W):
  (Code.rangeFunc g ps (.region rid #[{dst:=some d,op:= .assign (.tmp src),type:=ty,pos:=pos,after:= #[],guard:=none}] false) body).wpIn Fence.wide n P Q a w:=by
 refine wpIn_rangeFunc_ownG (S:=S) (Sp:=Sp) (N:=M) (w0:=w) (encs:=encs) rfl (by omega) (hf.agrees _ _ hg) trivial eg hseq
  (fun h1 h2 k hk=>(h2 k hk).trans (h1 k hk)) ?hKb (Go.RowKit.Below.refl _ _) hps
  (fun pre W=> ∃I',Own B ro φ I' W/\J pre I') (fun _ _ _=>False) ?hI (fun _ _ _ _ _ h=>h.elim) ⟨I,ho,h0⟩
  (fun x=>Act.mk (((ps.zip (encs x)).foldl (fun t (p,v)=>t.setIfInBounds p v) a.tmps).setIfInBounds d (((ps.zip (encs x)).foldl (fun t (p,v)=>t.setIfInBounds p v) a.tmps).getD src undef)) []) ?hassign ?hbody ?hdone ?hstop
 case hKb=>
  intro W l o o' hl hWl _ _ k hk
  obtain⟨x,hx,_⟩:=hkeep [] I h0 k hk
  have:=ho.lt hx
  exact World.putObj_heap_other (by omega)
 case hI=>
  rintro pre W W' row ⟨I',hO,hJ⟩ hg hr
  have old:∀ b o,W.heap[b]?=some o->(o.isCells=false->b<w.heap.size)->W'.heap[b]?=W.heap[b]?:=fun b o hb hc=>by
   refine hg.block b (wT hb) fun e=>?_
   obtain⟨h1,o2,h2,h3⟩:=hr b e.symm
   rw[hb]at h2;cases h2
   have:=hc h3;omega
  refine⟨I',hO.keepBlocks hg.os hg.tape hg.output (fun b o e=>?_) (fun b o e=>?_) (fun b o e=>?_),hJ⟩
  .refine old b o (hO.own b o e).1 fun hc=>?_
   obtain⟨o',h'⟩:=hcell pre I' hJ b o e hc
   exact ho.lt h'
  .exact old b o (hO.fr b o e) fun _=>wT (ho.fr b o e)
  .exact old b o (hO.ro b o e) fun _=>wT (ho.ro b o e)
 case hassign=>
  intro l x W K hK
  refine wpIn_region ?_
  show wpOpsIn _ _ _ _ _ (List.range 1) _ _
  simp only[List.range_succ,List.range_zero,List.nil_append,wpOpsIn]
  simp only[List.getElem?_toArray,List.getElem?_cons_zero,Region.wanted]
  refine⟨fun _ _=>trivial,?_⟩
  rw[Oper.semAt_eq _ _ _ (fun c e=>by cases e)]
  exact hK
 case hbody=>
  rintro l pre x W ⟨I1,hO,hJ⟩ hlen
  refine wpIn_mono (hbody l pre x I1 hJ hlen (ad6 W I1) W _ hO.all (hfr x)) ?_
  rintro e a' W' ⟨fr',I2,⟨hn,hold,I3,hle,hJ3⟩,hO2,_⟩
  subst hn
  have hO2':=hO.unall hO2
  have blk:∀ (k:Nat) (o:Obj),W.heap[k]?=some o->I1 k=none->W'.heap[k]?=some o:=fun k o hk hs=>hO2.fr k o (by unfold ad6;rw[hs];exact hk)
  refine⟨⟨?_,?_⟩,?_,I3,hO2'.drop hle,hJ3⟩
  .rcases Nat.eq_zero_or_pos W.heap.size with h | h
   .omega
   .have hl:W.heap.size - 1<W.heap.size:=by omega
    have hx:W.heap[W.heap.size - 1]?=some W.heap[W.heap.size - 1]:=Array.getElem?_eq_getElem hl
    have:∃ o,W'.heap[W.heap.size - 1]?=some o:=by
     cases hs:I1 (W.heap.size - 1)with
     | none=>exact⟨_,blk _ _ hx hs⟩
     | some o=>obtain⟨o',h'⟩:=hold _ o hs;exact⟨o',(hO2.own _ _ h').1⟩
    obtain⟨o,h'⟩:=this
    have:=wT h';omega
  .intro k o hk ho' hc
   refine blk k o ho' ?_
   cases hs:I1 k with
   | none=>rfl
   | some o2=>
    have:=(hO.own k o2 hs).1
    rw[ho']at this;cases this
    obtain⟨o3,h3⟩:=hcell pre I1 hJ k o hs hc
    have:=ho.lt h3;omega
  .intro k hk
   obtain⟨o,h1,h2⟩:=hkeep _ _ hJ k hk
   obtain⟨o',h3,h4⟩:=hkeep _ _ hJ3 k hk
   rw[h1]at h3;cases h3
   rw[(hO.own k o h2).1,(hO2'.own k o (hle k o h4)).1]
 case hdone=>
  rintro D xs W hD hS ⟨I',hO,hJ⟩ hW
  have nD:I' D=none:=by
   cases hs:I' D with
   | none=>rfl
   | some o=>
    have:=(hO.own D o hs).1
    rw[hW]at this;cases this
    obtain⟨o',h'⟩:=hcell xs I' hJ D _ hs rfl
    have:=ho.lt h';omega
  have fD:φ D=none:=by
   cases hs:φ D with
   | none=>rfl
   | some o=>have:=wT (ho.fr D o hs);omega
  have rD:ro D=none:=by
   cases hs:ro D with
   | none=>rfl
   | some o=>have:=wT (ho.ro D o hs);omega
  refine hdone D xs W I' fD rD hS hJ ⟨hO.os,hO.tape,hO.output,fun b o e=>?_,fun b o e=>?_,hO.ro⟩
  .obtain⟨h1,h2,h3⟩:=hO.own b o e
   refine⟨h1,?_,h3⟩
   unfold upd
   rw[if_neg (fun h=>by subst h;rw[nD]at e;cases e)]
   exact h2
  .unfold upd at e
   split at e
   .rename_i h;subst h;cases e;exact hW
   .exact hO.fr b o e
 case hstop=>
  rintro D c pre W _ _ h _
  exact h.elim
theorem aqL{a:Act}(hf:pW N [{target:= .collected D,args:= #[]}] fr a)(fD:φ D=none)(rD:ro D=none)
  (ho:Own B ro (upd φ D (.deferred (some []))) I w)
  (h:∃ v,(∀tmps:Array Value,(∀i u,look fr i=some u->tmps[i]?=some u)->qf P ro (results fn tmps) I=some v)/\Q v I):
  bodyPostM Fence.wide n P fn (fun e w'=> ∃v I',e= .returned v/\Q v I'/\Own B ro φ I' w') .ret a w:=by
 obtain⟨v,hr,hq⟩:=h
 have hD:w.heap[D]?=some (.deferred (some [])):=ho.fr D _ (by simp[upd])
 have hO:Own B ro φ I (w.putObj D (.deferred none)):=by
  refine⟨ho.os,ho.tape,ho.output,fun b o e=>?_,fun b o e=>?_,fun b o e=>?_⟩
  .obtain⟨h1,h2,h3⟩:=ho.own b o e
   have hne:b≠D:=fun h=>by subst h;simp[upd]at h2
   exact⟨(World.putObj_heap_other hne).trans h1,by unfold upd at h2;rw[if_neg hne]at h2;exact h2,h3⟩
  .have hne:b≠D:=fun h=>by subst h;rw[fD]at e;cases e
   exact(World.putObj_heap_other hne).trans (ho.fr b o (by unfold upd;rw[if_neg hne];exact e))
  .have hne:b≠D:=fun h=>by subst h;rw[rD]at e;cases e
   exact(World.putObj_heap_other hne).trans (ho.ro b o e)
 show LeavesInM _ _ _ _ _ _ a.defers _ _
 rw[hf.defers]
 refine⟨by simp,.inl ⟨D,_,rfl,run_takeDeferred hD,?_⟩⟩
 exact⟨v,afC _ (hr _ hf.has) hO,v,I,rfl,hq,hO⟩
theorem qc.of_marks{f:FuncId}{args:List Value}(hf:P.funcs[f]?=some fn)(hb:fn.body=some c)
  (hn:args.length<=fn.ntmps) (h:∀ φ w a,Own B ro φ I w->xa fn.ntmps (adW args 0) a->c.wpIn Fence.wide n P (bodyPostM Fence.wide n P fn (fun e w'=> ∃v I',e= .returned v/\Q v I'/\Own B ro φ I' w')) a w):
  qc P B ro f args.toArray I Q:=by
 intro φ w ho
 refine(callsIn_wide (n:=n)).1 ?_
 refine callsIn_of_wp_marks hf hb trivial ?_ rfl
 refine h φ w _ ho ⟨by simp;omega,rfl,?_⟩
 intro i v hi
 obtain⟨_,h2⟩:=aiX args 0 i v hi
 simp only[Nat.sub_zero]at h2
 have hlt:i<args.length:=by
  rcases Nat.lt_or_ge i args.length with h' | h'
  .exact h'
  .rw[List.getElem?_eq_none h']at h2;cases h2
 simp[Array.getElem?_append,hlt]
 simpa [List.getElem?_eq_getElem hlt]using h2
end
end SL
namespace Back
open Go Go.RowKit Go.Shelf
variable{α:Type}{ks:List Nat}
attribute [local go_sem] Oper.semAt_some
def upto{α:Type}(f:Nat->α)(k:Nat):List α:=(List.range k).map f
theorem upto_succ(f:Nat->α)(k:Nat):upto f (k+1)=upto f k++[f k]:=by simp[upto,List.range_succ]
theorem upto_length(f:Nat->α)(k:Nat):(upto f k).length=k:=by simp[upto]
def bk(zs:List ByteArray)(k:Nat):Int×ByteArray:=((zs.length:Int) - 1 - k,(zs[zs.length - 1 - k]?).getD ByteArray.empty)
def Kp(ks:List Nat)(W W':World):Prop:= ∀k∈ks,W'.heap[k]?=W.heap[k]?
theorem Kp.refl(ks:List Nat)(W:World):Kp ks W W:=fun _ _=>rfl
theorem Kp.trans{A B C:World}(h:Kp ks A B)(h':Kp ks B C):Kp ks A C:=fun k hk=>(h' k hk).trans (h k hk)
theorem Kp.cell{A B:World}(h:Kp ks A B){p:Addr}(hp:p.block∈ks):B.cell? p=A.cell? p:=World.cell?_of_block (h _ hp)
theorem back1(n:Nat)(hn:1<=n)(l Bs b off cap:Nat)(zs:List ByteArray)(hreach:zs.length*8<=140737488351232)(J Jx:List (Int×ByteArray)->World->Prop)
  (hY:∀ pre x W,J pre W->pre.length<zs.length->YieldAt Fence.wide (n - 1) prog l #[.int .i64 x.1,.string x.2] W fun e W'=>
   (e= .returned (.bool true)/\J (pre++[x]) W'/\Kp [Bs,b] W W')\/(e= .returned (.bool false)/\Jx (pre++[x]) W'))
  (W:World) (hBs:W.cell? ⟨Bs,0,none⟩=some (.slice (some ⟨b,off,none⟩) zs.length cap)) (hc:∀ j,j<zs.length->W.cell? ⟨b,off+j,none⟩=some (.string ((zs[j]?).getD ByteArray.empty))) (h0:J [] W):
  CallsIn Fence.wide n prog 230 #[.func (.yield l) #[] #[],.pointer (some ⟨Bs,0,none⟩)] W fun e W'=>(∃v,e= .returned v)/\
   ((∃ys,ys=upto (bk zs) zs.length/\J ys W')\/(∃pre,(∃k,k<=zs.length/\pre=upto (bk zs) k)/\Jx pre W')):=by
 refine callsIn_of_wp func230 rfl trivial ?_ rfl
 simp only[ntmps230,List.size_toArray,List.length_cons,List.length_nil,Nat.reduceAdd,Nat.reduceSub,Array.replicate_succ,Array.replicate_zero,List.push_toArray,List.append_toArray,List.nil_append,List.cons_append]
 gi_wp2
 gi_loopw [3] (fun i wr=> ∃k:Nat,k<=zs.length/\i= .int .i64 ((zs.length:Int) - 1 - k)/\J (upto (bk zs) k) wr/\Kp [Bs,b] W wr)
  (fun i _=>(intOf i+1).toNat)
 case atStart=>exact⟨0,Nat.zero_le _,by simp,h0,Kp.refl _ _⟩
 case round=>
  obtain⟨k,hk,rfl,hJs,hnx⟩:=hrel
  have hB':wr.cell? ⟨Bs,0,none⟩=some (.slice (some ⟨b,off,none⟩) zs.length cap):=(hnx.cell (p:=⟨Bs,0,none⟩) (by simp)).trans hBs
  by_cases hlt:k<zs.length
  .have hcx:wr.cell? ⟨b,off+(zs.length - 1 - k),none⟩=some (.string ((zs[zs.length - 1 - k]?).getD ByteArray.empty)):=(hnx.cell (p:=⟨b,off+(zs.length - 1 - k),none⟩) (by simp)).trans (hc _ (by omega))
   obtain⟨fn,tmps,assign,body,hy,hR⟩:=hY _ (bk zs k) wr hJs (by rw[upto_length];exact hlt)
   dsimp only[bk]at hy
   have e1:((zs.length:Int) - 1 - k).toNat=zs.length - 1 - k:=by omega
   gi_wp2
   refine hR.mono ?_
   rintro e W3 (⟨rfl,hJ3,hk3⟩ | ⟨rfl,hJx3⟩)
   .gi_wp2
    go_roundw
    case rel=>exact⟨k+1,by omega,by simp;omega,by rw[upto_succ];exact hJ3,hnx.trans hk3⟩
    case measure=>simp[intOf];omega
   .gi_wp2
    refine bodyPost_ret (results_none rfl _ _ _) rfl ?_
    exact⟨⟨_,rfl⟩,.inr ⟨_,⟨k+1,by omega,(upto_succ _ _).symm⟩,hJx3⟩⟩
  .obtain rfl:k=zs.length:=by omega
   gi_wp2
   go_end0
   exact⟨⟨_,rfl⟩,.inl ⟨_,rfl,hJs⟩⟩
theorem back1_nil(n l Bs:Nat)(J:List (Int×ByteArray)->World->Prop)(W:World)(hBs:W.cell? ⟨Bs,0,none⟩=some (.slice none 0 0))(h0:J [] W):
  CallsIn Fence.wide n prog 230 #[.func (.yield l) #[] #[],.pointer (some ⟨Bs,0,none⟩)] W fun e W'=>(∃v,e= .returned v)/\J [] W':=by
 refine callsIn_of_wp func230 rfl trivial ?_ rfl
 simp only[ntmps230,List.size_toArray,List.length_cons,List.length_nil,Nat.reduceAdd,Nat.reduceSub,Array.replicate_succ,Array.replicate_zero,List.push_toArray,List.append_toArray,List.nil_append,List.cons_append]
 gi_wp2
 gi_loopw [3] (fun i wr=>i= .int .i64 (-1)/\J [] wr) (fun _ _=>0)
 case atStart=>exact⟨rfl,h0⟩
 case round=>
  obtain⟨rfl,hJs⟩:=hrel
  gi_wp2
  go_end0
  exact⟨⟨_,rfl⟩,hJs⟩
theorem stops(n:Nat)(hn:1<=n)(Bs:Nat)(s:SL.Sl)(zs:List ByteArray)(ks:List Nat)(hreach:zs.length*8<=140737488351232)(w:World)
  (hBs:w.cell? ⟨Bs,0,none⟩=some s.v) (hBl:Bs<w.heap.size) (hkB:Bs∈ks)
  (hI:(s=⟨none,0,0⟩/\zs=[])\/∃ b cap,s=⟨some ⟨b,0,none⟩,zs.length,cap⟩/\b<w.heap.size/\b∈ks/\∀ j,j<zs.length->w.cell? ⟨b,j,none⟩=some (.string ((zs[j]?).getD ByteArray.empty))):
  SeqStopsK Fence.wide n prog 230 #[.pointer (some ⟨Bs,0,none⟩)] (fun x:Int×ByteArray=> #[Value.int .i64 x.1,.string x.2]) (Kp ks) (fun ys=>ys=upto (bk zs) zs.length) (fun _=>True) zs.length w:=by
 intro l J Jx W hW _ _ hY h0
 have hc':=(hW.cell (p:=⟨Bs,0,none⟩) hBl).trans hBs
 rcases hI with⟨rfl,rfl⟩ | ⟨b,cap,rfl,hb,hkb,hcs⟩
 .exact(back1_nil n l Bs J W hc' h0).mono fun e W' ⟨he,hj⟩=>⟨he,.inl ⟨_,rfl,hj⟩⟩
 .refine(back1 n hn l Bs b 0 cap zs hreach J Jx (fun pre x W hJ hl=>?_) W hc' (fun j hj=>?_) h0).mono ?_
  .obtain⟨fn,tmps,assign,body,hy,hR⟩:=hY pre x W hJ hl
   refine⟨fn,tmps,assign,body,hy,hR.mono ?_⟩
   rintro e W' (⟨h1,h2,h3⟩ | h)
   .refine .inl ⟨h1,h2,fun k hk=>h3 k ?_⟩
    simp at hk
    rcases hk with rfl | rfl<;>assumption
   .exact .inr h
  .rw[Nat.zero_add]
   exact(hW.cell (p:=⟨b,j,none⟩) hb).trans (hcs j hj)
  .rintro e W' ⟨he,⟨ys,h1,h2⟩ | ⟨pre,_,h2⟩⟩
   .exact⟨he,.inl ⟨ys,h1,h2⟩⟩
   .exact⟨he,.inr ⟨pre,trivial,h2⟩⟩
end Back
namespace G
open Go SL
variable{B:World}{ro I:AH}
variable{fr:Fr}{N n:Nat}{P:Program}
theorem AWF.iff{F:Fence}{ds:List Deferred}{B:World}{ro:AH}{I:AH}{Q:Exit->Fr->AH->Prop}{c:Operand}{x y:Code}{b:Bool}{p:Prop}[Decidable p]{X Y:Prop}(hc:ql fr c=some (.bool b))(hi:b=true↔p)(h:if p then X else Y)
  (ht:X->AWF F n ds P B ro N x Q fr I) (hn:Y->AWF F n ds P B ro N y Q fr I):AWF F n ds P B ro N (.cond c x y) Q fr I:=by
 refine AWF.cond hc (fun e=>ht ?_) (fun e=>hn ?_)
 .rw[if_pos (hi.1 e)]at h;exact h
 .rw[if_neg (fun q=>by rw[hi.2 q]at e;cases e)]at h;exact h
theorem ajp{B:World}{ro φ I:AH}{x y:Code}{R:Exit->Act->World->Prop}{w:World}{a:Act}
  (h:AW P B ro N x (ab8 (fun fr I=> ∀w a,SL.Own B ro φ I w->xa N fr a->y.wpIn Fence.wide n P R a w) (fun _ _ _=>False)) fr I) (ho:SL.Own B ro φ I w) (hf:xa N fr a):(Code.seq x y).wpIn Fence.wide n P R a w:=by
 refine wpIn_seq (wpIn_wide.2 (wp_mono (h φ w a ho hf) ?_))
 rintro e a' w' ⟨fr',I',hq,ho',hf'⟩
 cases e with
 | normal=>exact hq w' a' ho' hf'
 | _=>exact hq.elim
def akL(ro:AH)(a0:ByteArray)(a3:Addr)(Q:AH->Prop)(x31_6:Bool)(I:AH):Prop:=
 if x31_6=true then
 ∃(x32_7:Sl),qa ro I a3=some (Sl.v x32_7)/\
 nw ro I (.cells #[.int .i64 2,.string a0] 336) fun x35_8 I=>
 awp prog ro (Builtin.append_ #[258,258] 258 #[Sl.v x32_7,Sl.v (⟨some ⟨x35_8,0,none⟩,1,1⟩:Sl)]) (fun v I=> ∃(x36_9:Sl),v=Sl.v x36_9/\
  stN a3 (fun I=>Q I) [Sl.v x36_9] 0 I) I
 else
 Q I
def rnd(B:World)(ro:AH)(a0:ByteArray)(a1 a2 a3:Addr)(I:AH)(Q:AH->Prop):=
 yD B ro a0 I fun x20_2 x20_3 I=>
 ∃(x24_4:ByteArray),qa ro I a2=some (.string x24_4)/\
 if x20_2=x24_4 then
 ∃(x27_10:Option Addr),qa ro I a1=some (.pointer x27_10)/\
 jo B ro x27_10 a0 (-1) I fun x29_11 I=>
 akL ro a0 a3 Q (decide (x29_11=0)) I
 else
 akL ro a0 a3 Q false I
def apw(B:World)(ro:AH)(b3 b4 b7 bb:Nat)(s:Sl)(I:AH)(Q:Sl->AH->Prop):=
 ∃(zs:List ByteArray) (J:List (Int×ByteArray)->AH->Prop),
  ((s=⟨none,0,0⟩/\zs=[])\/∃ b cap o,s=⟨some ⟨b,0,none⟩,zs.length,cap⟩/\I b=some o/\(∀pre I',J pre I'->I' b=some o)/\∀ j,j<zs.length->vy ⟨b,j,none⟩ (some o)=some (.string ((zs[j]?).getD ByteArray.empty)))/\
  zs.length*8<=140737488351232/\J [] I/\
  (∀pre I',J pre I'->∀ b o,I' b=some o->Obj.isCells o=false->∃ o',I b=some o')/\
  (∃o,I bb=some o/\vy ⟨bb,0,none⟩ (some o)=some (Sl.v s)/\∀ pre I',J pre I'->I' bb=some o)/\
  (∀pre x I1,J pre I1->pre.length<zs.length->rnd B ro x.2 ⟨b3,0,none⟩ ⟨b4,0,none⟩ ⟨b7,0,none⟩ I1 fun I2=>(∀b o,I1 b=some o->∃ o',I2 b=some o')/\∃ I3,HLe I3 I2/\J (pre++[x]) I3)/\
  (∀I',J (Back.upto (Back.bk zs) zs.length) I'->∃ so,qa ro I' ⟨b7,0,none⟩=some (Sl.v so)/\Q so I')
def amy(B:World)(ro:AH)(a0:Option Addr)(a1:ByteArray)(a2:Sl)(I:AH)(Q:Sl->AH->Prop):=
 nw ro I (.cells #[.pointer a0] 61) fun x3_1 I=>
 nw ro I (.cells #[.string a1] 9) fun x4_2 I=>
 nw ro I (.cells #[Sl.v (⟨none,0,0⟩:Sl)] 258) fun x7_3 I=>
 ∃(x12_4:Option Addr),qa ro I ⟨x3_1,0,none⟩=some (.pointer x12_4)/\
 aa1 B ro x12_4 a2 I fun x14_5 I=>
 nw ro I (.cells #[Sl.v x14_5] 27) fun x1_1 I=>
 apw B ro x3_1 x4_2 x7_3 x1_1 x14_5 I Q
theorem akM{a0:Option Addr}{a1:ByteArray}{a2:Sl}{Q:Sl->AH->Prop}(h:Sep ro I->amy B ro a0 a1 a2 I Q):aan B ro a0 a1 a2 I Q:=by
 refine qc.of_sep fun hsep=>?_
 replace h:=h hsep
 refine qc.of_marks (n:=5) (args:=[.pointer a0,.string a1,Sl.v a2]) func126 rfl (by rw[ntmps126];simp) ?_
 rw[ntmps126]
 unfold amy at h
 intro φ w a ho hf
 refine ajp ?_ ho hf
 clear ho hf
 refine AW.reg ?_;refine Ls rfl rfl (ajN (wI rfl rfl) fun x3_1 g1 g2=>?_)
 replace h:=h x3_1 g1 g2
 refine Ls rfl rfl (ajN (wI rfl rfl) fun x4_2 g1 g2=>?_)
 replace h:=h x4_2 g1 g2
 refine Lp (agB rfl rfl) rfl rfl ?_
 refine ju ?_;refine qd ?_
 intro w a ho hf
 refine ajp ?_ ho hf
 clear ho hf
 refine AW.reg ?_;refine Ls rfl rfl (ajN (qY rfl agH) fun x7_3 g1 g2=>?_)
 replace h:=h x7_3 g1 g2
 refine ju ?_;refine qd ?_
 intro w a ho hf
 refine wpIn_seq ?_
 refine ajp ?_ ho hf
 clear ho hf
 refine AW.reg ?_;obtain⟨x12_4,hc,h⟩:=h
 refine Ls rfl rfl (vG rfl underlying61 rfl rfl hc ?_)
 refine Lp (jl rfl rfl) rfl rfl ?_
 refine Ls rfl rfl (qF rfl func183 rfl rfl rfl (qc.mono h ?_))
 rintro v I ⟨x14_5,rfl,h⟩;refine Ls rfl rfl (qF rfl func182 rfl rfl rfl (qc.mono (acs (Q:=fun v I=> ∃x1,v= .func (.func 230) #[] #[.pointer (some ⟨x1,0,none⟩)]/\apw B ro x3_1 x4_2 x7_3 x1 x14_5 I Q) fun _=>?_) ?_))
 .unfold xC
  intro x1 g1 g2
  exact⟨x1,rfl,h x1 g1 g2⟩
 rintro x15_6 I ⟨_,rfl,x1,rfl,h⟩
 refine ju ?_;refine qd ?_
 intro w a ho hf
 refine wpIn_block ?_
 obtain⟨zs,J,hrow,hreach,h0,hcl,⟨ob,hob,hobc,hobk⟩,hround,hend⟩:=h
 have hBl:x1<w.heap.size:=ho.lt hob
 have hBc:w.cell? ⟨x1,0,none⟩=some x14_5.v:=by rw[cell?_eq,(ho.own _ _ hob).1];exact hobc
 obtain⟨ks,hk1,hkeep,hI⟩:∃ ks:List Nat,x1∈ks/\(∀pre I',J pre I'->∀ k∈ks,∃o,I k=some o/\I' k=some o)/\
   ((x14_5=⟨none,0,0⟩/\zs=[])\/∃ b cap,x14_5=⟨some ⟨b,0,none⟩,zs.length,cap⟩/\b<w.heap.size/\b∈ks/\∀ j,j<zs.length->w.cell? ⟨b,j,none⟩=some (.string ((zs[j]?).getD ByteArray.empty))):=by
  rcases hrow with h1 | ⟨b,cap,o,h1,h2,h3,h4⟩
  .refine⟨[x1],by simp,fun pre I' hJ k hk=>?_,.inl h1⟩
   simp at hk;subst hk
   exact⟨ob,hob,hobk pre I' hJ⟩
  .refine⟨[x1,b],by simp,fun pre I' hJ k hk=>?_,.inr ⟨b,cap,h1,ho.lt h2,by simp,fun j hj=>?_⟩⟩
   .simp at hk
    rcases hk with rfl | rfl
    .exact⟨ob,hob,hobk pre I' hJ⟩
    .exact⟨o,h2,h3 pre I' hJ⟩
   .rw[cell?_eq,(ho.own _ _ h2).1]
    exact h4 j hj
 refine amx (gf:=230) (Bs:=x1) (by omega) (enters_of func230 (by kernel_rfl) rfl) ks rfl (Back.stops 4 (by omega) x1 x14_5 zs ks hreach w hBc hBl hk1 hI) (fun _=>rfl) ho hf J h0 hcl hkeep
  (fun x=>[(9,.string x.2),(3,.pointer (some ⟨x3_1,0,none⟩)),(4,.pointer (some ⟨x4_2,0,none⟩)),(7,.pointer (some ⟨x7_3,0,none⟩))]) ?hfr ?hbody ?hdone
 case hfr=>
  intro x
  have k:=((hf.put (d:=some 16) rfl (.int .i64 x.1)).put (d:=some 17) rfl (.string x.2)).put (d:=some 9) rfl (.string x.2)
  have k':=(k.weaken (qo.cons rfl (qo.cons rfl (qo.cons rfl (qo.cons rfl (qo.nil _))))):xa 38 [(9,.string x.2),(3,.pointer (some ⟨x3_1,0,none⟩)),(4,.pointer (some ⟨x4_2,0,none⟩)),(7,.pointer (some ⟨x7_3,0,none⟩))] _).d
  have e:((#[16,17].zip #[Value.int .i64 x.1,.string x.2]).foldl (fun t (p,v)=>t.setIfInBounds p v) a.tmps)=(a.tmps.setIfInBounds 16 (.int .i64 x.1)).setIfInBounds 17 (.string x.2):=by simp
  have e2:((a.tmps.setIfInBounds 16 (.int .i64 x.1)).setIfInBounds 17 (.string x.2)).getD 17 undef= .string x.2:=by simp[Array.getD_eq_getD_getElem?,hf.size]
  refine⟨?_,rfl,fun i v h=>?_⟩
  .have:=k'.size
   rw[e,e2]
   exact this
  .have:=k'.has i v h
   rw[e,e2]
   exact this
 case hbody=>
  intro l pre x I1 hJ hlen
  obtain⟨R,hR,h⟩:∃ R:AH->Prop,(∀I2,R I2->(∀b o,I1 b=some o->∃ o',I2 b=some o')/\∃ I3,HLe I3 I2/\J (pre++[x]) I3)/\rnd B ro x.2 ⟨x3_1,0,none⟩ ⟨x4_2,0,none⟩ ⟨x7_3,0,none⟩ I1 R:=⟨_,fun _ h=>h,hround pre x I1 hJ hlen⟩
  clear hround hend
  refine AWF.mono (Q:=fun e fr I=>e= .normal/\R I) ?_ (fun e fr I ⟨h1,h2⟩=>⟨h1,(hR I h2).1,(hR I h2).2⟩)
  have hO:=ag5.round l
  unfold rnd at h;refine AWF.block ?_
  refine AWF.seq ?_
  refine AWF.reg hO rfl ?_
  refine Lp (jl rfl rfl) rfl rfl ?_
  refine Ls rfl rfl (qF rfl func81 rfl rfl rfl (qc.mono h ?_))
  rintro v I ⟨x20_2,x20_3,rfl,h⟩;refine Lp (jl rfl rfl) rfl rfl ?_
  refine Lp (ajH rfl rfl rfl) rfl rfl ?_
  refine Lp (ajH rfl rfl rfl) rfl rfl ?_
  refine Lp (agB rfl rfl) rfl rfl ?_
  refine Lp (agB rfl rfl) rfl rfl ?_
  refine ju ?_;refine qd ?_;refine AWF.seq ?_
  refine AWF.reg hO rfl ?_
  refine Lp (jl rfl rfl) rfl rfl ?_
  obtain⟨x24_4,hc,h⟩:=h
  refine Ls rfl rfl (vG rfl underlying9 rfl rfl hc ?_)
  refine Lp (ajK rfl rfl rfl) rfl rfl ?_
  refine Lp (jl rfl rfl) rfl rfl ?_
  refine qO 5 (decide (x20_2=x24_4)) decide_eq_true_iff h (fun fr I=> ∃(x31_6:Bool),qo [(9,.string x.2),(7,.pointer (some ⟨x7_3,0,none⟩)),(31,.bool x31_6)] fr/\akL ro x.2 ⟨x7_3,0,none⟩ R x31_6 I) ?_ ?_ ?_
  .intro h e3 hk3;obtain⟨x27_10,hc,h⟩:=h
   refine Lyb rfl rfl rfl rfl e3 (vG rfl underlying61 rfl rfl hc ?_)
   refine qX (jl rfl rfl) rfl rfl rfl rfl e3 ?_
   refine Lyb rfl rfl rfl rfl e3 (qF rfl func184 rfl rfl rfl (qc.mono h ?_))
   rintro v I ⟨x29_11,rfl,h⟩;refine qX (ajJ rfl rfl rfl) rfl rfl rfl rfl e3 ?_
   refine Lp (yH rfl (evb e3) rfl) rfl rfl ?_
   exact hk3 _ _ ⟨_,(qo.cons rfl (qo.cons rfl (qo.cons rfl (qo.nil _)))),h⟩
  .intro h e3 hk3;refine Ln rfl rfl rfl rfl (.inl (by rw[e3];try rfl)) ?_
   refine Ln rfl rfl rfl rfl (.inl (by rw[e3];try rfl)) ?_
   refine Ln rfl rfl rfl rfl (.inl (by rw[e3];try rfl)) ?_
   refine Ln rfl rfl rfl rfl (.inl (by rw[e3];try rfl)) ?_
   refine Lp (pF rfl (evb e3) rfl) rfl rfl ?_
   exact hk3 _ _ ⟨_,(qo.cons rfl (qo.cons rfl (qo.cons rfl (qo.nil _)))),h⟩
  rintro fr I ⟨x31_6,hl,h⟩;unfold akL at h;refine Lfr hl ?_
  refine ju ?_;refine qd ?_;refine AWF.iff rfl Iff.rfl h (fun h=>?_) (fun h=>?_)
  rotate_left
  .refine AWF.skip ?_
   exact qD ⟨rfl,h⟩
  refine AWF.reg hO rfl ?_
  obtain⟨x32_7,hc,h⟩:=h
  refine Ls rfl rfl (vG rfl underlying258 rfl rfl hc ?_)
  refine Lp (jl rfl rfl) rfl rfl ?_
  refine Lp (wz (vs:=[(0,.int .i64 2),(1,.string x.2)]) (cs:= #[.int .i64 2,.string x.2]) rfl underlying336 abq arL rfl rfl) rfl rfl ?_
  refine Ls rfl rfl (ajN (zR (vs:=[(0,.agg #[.int .i64 2,.string x.2])]) (cs:= #[.int .i64 2,.string x.2]) rfl underlying258 abq (by decide) rfl rfl) fun x35_8 g1 g2=>?_)
  replace h:=h x35_8 g1 g2
  refine Ls rfl rfl (je (s:=Builtin.append_ #[258,258] 258 #[Sl.v x32_7,Sl.v (⟨some ⟨x35_8,0,none⟩,1,1⟩:Sl)]) rfl rfl (fun _=>rfl) (qm _ h ?_))
  rintro v I ⟨x36_9,rfl,h⟩;refine Ls rfl rfl (yR rfl agH rfl rfl rfl rfl (zD h fun I h=>?_))
  refine ju ?_;exact qD ⟨rfl,h⟩
 case hdone=>
  intro D xs W I' fD rD hS hJ hO
  subst hS
  obtain⟨so,hc,hq⟩:=hend I' hJ
  show Code.wpIn _ _ _ _ _ _ _
  refine wpIn_mono ((?hT:AWF Fence.wide 5 [{target:= .collected D,args:= #[]}] prog B ro 38 _ (fun e fr I=>e= .ret/\SL.look fr 6=some (Sl.v so)/\Q so I) [(7,.pointer (some ⟨x7_3,0,none⟩))] I') _ W _ hO ⟨hf.size,?hd,fun i v h=>hf.has i v ?hl⟩) ?hp
  case hT=>
   refine AWF.seq ?_
   refine AWF.reg ag5.wide rfl ?_
   refine Ls rfl rfl (vG rfl underlying258 rfl rfl hc ?_)
   refine Lp (agB rfl rfl) rfl rfl ?_
   refine ju ?_;refine qd ?_;exact AWF.ret ⟨rfl,rfl,hq⟩
  case hd=>rw[hf.defers]
  case hl=>exact(qo.cons rfl (qo.nil _):qo [(7,.pointer (some ⟨x7_3,0,none⟩))] _) i v h
  case hp=>
   rintro e a' W' ⟨fr',I2,⟨rfl,hl,hq⟩,hO2,hf2⟩
   exact aqL (Q:=fun v I=> ∃(r0:Sl),v=Sl.v r0/\Q r0 I) hf2 fD rD hO2 (asI (R:=fun v I=> ∃(r0:Sl),v=Sl.v r0/\Q r0 I) results126 hl ⟨so,rfl,hq⟩)
end G
namespace SL
open Go
variable{P:Program}{B:World}{ro I I':AH}{tag tag':Nat->Nat}{L:List Nat}
variable{C R:List Nat}{l:List Value}{q:Nat}{s:Sl}
def aaH(tag:Nat->Nat)(I:AH)(q:Nat)(s:Sl)(l:List Value):Prop:=
 s.len=l.length/\((s.a=none/\l=[])\/∃ p o,s.a=some p/\tag p.block=q/\I p.block=some o/\∀ i v,l[i]?=some v->vy (p.add i) (some o)=some v)
theorem apx(p:Addr)(i:Nat):(p.add i).block=p.block:=by
 cases i with
 | zero=>rfl
 | succ i=>rfl
theorem aaH.keep(h:aaH tag I q s l)(k:qe R ro tag I tag' I')(hq:q∉R:=by simp):aaH tag' I' q s l:=by
 obtain⟨h1,h2 | ⟨p,o,h2,h3,h4,h5⟩⟩:=h
 .exact⟨h1,.inl h2⟩
 .obtain⟨e1,e2⟩:=k.keep _ _ h4 (by rw[h3];exact hq)
  exact⟨h1,.inr ⟨p,o,h2,e1.trans h3,e2,h5⟩⟩
theorem aaH.keepS(h:aaH tag I q s l)(k:StepS C ro tag I tag' I')(hq:q%64∉C:=by decide):aaH tag' I' q s l:=by
 obtain⟨R,h1,h2⟩:=k
 exact h.keep h2 fun m=>hq (h1 _ m)
theorem aaH.read(h:aaH tag I q s l)(hs:Sep ro I):zw ro I s l:=by
 obtain⟨h1,h2 | ⟨p,o,h2,h3,h4,h5⟩⟩:=h
 .exact⟨h1,fun _=>h2.2,fun p hp=>by rw[h2.1]at hp;cases hp⟩
 .refine⟨h1,(fun e=>by rw[h2]at e;cases e),fun p' hp' i v hv=>?_⟩
  rw[h2]at hp';cases hp'
  unfold qa rd
  rw[apx,hs _ _ h4,h4]
  exact h5 i v hv
theorem aaH.outR(h:aaH tag I q s l)(hq:q∉L):aaH tag (SL.zJ tag L I) q s l:=by
 obtain⟨h1,h2 | ⟨p,o,h2,h3,h4,h5⟩⟩:=h
 .exact⟨h1,.inl h2⟩
 .exact⟨h1,.inr ⟨p,o,h2,h3,by unfold SL.zJ;rw[if_neg (by rw[h3];exact hq)];exact h4,h5⟩⟩
end SL
namespace Zt
open Go SL G Pa
variable{B:World}{ro I I':AH}{tag tag':Nat->Nat}
variable{owner qb qn:Int}{ops:List MOp}{C:List Nat}{T b q r:Nat}{dr tg:Nat->Nat}{s:Sl}{Q:Sl->Sl->Int->Int->AH->Prop}{st:St}{home:Str}
def opV(o:MOp)(d:Sl):List Value:=[vI o.kind,Pa.vS o.path,Sl.v d,vI o.ver,.bool o.eph,.bool o.seq]
theorem aaH.retag{r':Nat}{l:List Value}(h:aaH tag I r s l)(hr:∀ c,tag c=r->I c≠none->tg c=r'):aaH tg I r' s l:=by
 obtain⟨h1,h2 | ⟨p,o,h2,h3,h4,h5⟩⟩:=h
 .exact⟨h1,.inl h2⟩
 .exact⟨h1,.inr ⟨p,o,h2,hr _ h3 (by rw[h4];simp),h4,h5⟩⟩
def uH(dr tag:Nat->Nat)(I:AH)(q:Nat)(s:Sl)(ops:List MOp):Prop:=
 ∃ds:List Sl,ds.length=ops.length/\qq tag I q 72 6 s (List.zipWith opV ops ds)/\∀ (i:Nat) (o:MOp) (d:Sl),ops[i]?=some o->ds[i]?=some d->aaH tag I (dr i) d (o.data.map vU)
abbrev adh(tag:Nat->Nat)(I:AH)(q:Nat)(s:Sl)(ops:List MOp):Prop:=uH (fun _=>6) tag I q s ops
theorem uH.keepS(h:uH dr tag I q s ops)(k:StepS C ro tag I tag' I')(hq:q%64∉C:=by decide)(h6:∀ i,dr i%64∉C:=by decide):uH dr tag' I' q s ops:=by
 obtain⟨ds,h1,h2,h3⟩:=h
 exact⟨ds,h1,qq.keepS h2 k hq,fun i o d ho hd=>(h3 i o d ho hd).keepS k (h6 i)⟩
theorem adh.keepS(h:adh tag I q s ops)(k:StepS C ro tag I tag' I')(hq:q%64∉C:=by decide)(h6:6∉C:=by decide):adh tag' I' q s ops:=uH.keepS h k hq fun _=>h6
theorem uH.len(h:uH dr tag I q s ops):s.len=ops.length:=by
 obtain⟨ds,h1,h2,h3⟩:=h
 rw[h2.len,List.length_zipWith,h1,Nat.min_self]
theorem uH.retag(h:uH dr tag I q s ops)(hr:∀ c,tag c=q\/(∃i,tag c=dr i)->I c≠none->tg c=tag c):uH dr tg I q s ops:=by
 obtain⟨ds,h1,h2,h3⟩:=h
 exact⟨ds,h1,qq.retag h2 fun c hc hn=>by rw[hr c (.inl hc) hn,hc],fun i o d ho hd=>aaH.retag (h3 i o d ho hd) fun c hc hn=>by rw[hr c (.inr ⟨i,hc⟩) hn,hc]⟩
abbrev DA:List Nat:=[0,1,2,3,4,5,12,13,14,15,17,18,19,20,21,25,26,27,30,31]
theorem arR:∀ c∈DC,c∈DA:=by decide
theorem ad7{e:TypeId}{n c:Nat}{l vs:List Value}{K:AH->Prop}(h:Row tag I r e ⟨some ⟨b,0,none⟩,n,c⟩ l)(hs:SL.Sep ro I)(hl:vs.length=l.length)(hv:∀ v∈vs,qh v=true)
  (hK:∀ I',qe [r] ro tag I tag I'->Row tag I' r e ⟨some ⟨b,0,none⟩,n,c⟩ vs->SL.qg ro I' ⟨b,0,none⟩ 0 vs->K I'):stN ⟨b,0,none⟩ K vs 0 I:=
 h.stAll hs hl hv fun I' st r'=>hK I' st r' (Row.cellsAt r' st.sep)
theorem applyD_ok(g:wV ro)(hr:r<64)(hrD:r∉DA)(hr6:r≠6)(hr63:r≠63)(hq:q%64∉DA)(hq63:q≠63)(hT:wa tag I r T st)(hi:ww b st)(hb:b<=1073741824)
  (hdr:∀ i,dr i%64∉r::DA) (hops:uH dr tag I q s ops) (hdl:∀ o∈ops,o.data.length<4611686018427387904) (hhl:home.length<=4611686018427387903)
  (hQ:∀ (rs es:Sl) (tag':Nat->Nat) (I':AH),StepS (r::DA) ro tag I tag' I'->wa tag' I' r T (qS st home owner qn qb ops).st->qq tag' I' 14 128 2 rs ((qS st home owner qn qb ops).res.map uj)->qq tag' I' 15 336 2 es ((qS st home owner qn qb ops).eff.map aes)->
   Q rs es (qS st home owner qn qb ops).bad (qS st home owner qn qb ops).err I'):
  acb B ro (some ⟨T,0,none⟩) (S home) owner qn qb s I Q:=by
 refine akJ fun hs=>?_
 unfold aer
 have hsl:=hops.len
 let tag0:Nat->Nat:=fun c=>if I c≠none/\tag c%64=12 then 63 else tag c
 have t0:∀ c,tag c%64≠12->tag0 c=tag c:=fun c h=>by simp only[tag0];rw[if_neg (fun h'=>h h'.2)]
 have hT0:wa tag0 I r T st:=hT.retag fun c hc _=>t0 c (by
  rcases hc with h | h
  .intro h';simp only[List.mem_cons,not_or]at hrD;omega
  .omega)
 have hops0:uH dr tag0 I q s ops:=hops.retag fun c hc _=>t0 c (by
  rcases hc with h | ⟨i,h⟩
  .intro h';simp only[List.mem_cons,not_or]at hq;rw[h]at h';omega
  .intro h';have:=hdr i;simp only[List.mem_cons,not_or]at this;rw[h]at h';omega)
 have old12:∀ c,I c≠none->tag0 c%64≠12:=fun c hc h=>by
  simp only[tag0]at h
  split at h
  .simp at h
  .rename_i hn;exact hn ⟨hc,h⟩
 have conv:∀ (tagE:Nat->Nat) (IE:AH),StepS (r::DA) ro tag0 I tagE IE->∀ tagF:Nat->Nat,(∀c,tagF c=if I c≠none then tag c else if tagE c%64=12 then tagE c - 12+r else tagE c)->
   StepS (r::DA) ro tag I tagF IE/\(∀c,IE c≠none->tagE c%64≠12->tagE c≠63->tagF c=tagE c)/\(∀c,tagE c%64=12->tagF c=tagE c - 12+r):=fun tagE IE stE tagF hF=>by
  obtain⟨R,hR,stR⟩:=stE
  have holdE:∀ c,I c≠none->tagE c=tag0 c:=fun c hc=>by
   cases h:I c with
   | none=>exact absurd h hc
   | some o=>exact(stR.old c o h).1
  refine⟨⟨R,hR,⟨fun c o hc hn=>?_,fun c o hc=>?_,stR.sep⟩⟩,fun c hcE h12 h63=>?_,fun c h12=>?_⟩
  .have hne:I c≠none:=by rw[hc];simp
   refine⟨by rw[hF,if_pos hne],?_⟩
   by_cases h:tag c%64=12
   .have e:tag0 c=63:=by simp only[tag0];rw[if_pos ⟨hne,h⟩]
    refine(stR.keep c o hc ?_).2
    rw[e]
    intro hm
    have:=hR 63 hm
    simp only[List.mem_cons,not_or]at this
    rcases this with h | h
    .omega
    .revert h;decide
   .exact(stR.keep c o hc (by rw[t0 c h];exact hn)).2
  .have hne:I c≠none:=by rw[hc];simp
   exact⟨by rw[hF,if_pos hne],(stR.old c o hc).2⟩
  .by_cases hne:I c≠none
   .rw[hF,if_pos hne]
    have e:=holdE c hne
    by_cases h:tag c%64=12
    .have e2:tag0 c=63:=by simp only[tag0];rw[if_pos ⟨hne,h⟩]
     exact absurd (e.trans e2) h63
    .rw[e,t0 c h]
   .rw[hF,if_neg hne,if_neg h12]
  .have hne:¬ I c≠none:=fun hne=>old12 c hne (by rw[<-holdE c hne];exact h12)
   rw[hF,if_neg hne,if_pos h12]
 have quick:∀ (e bad:Int) (tag1:Nat->Nat) (I1:AH) (x10:Nat),qS st home owner qn qb ops=⟨st,[],[],bad,e⟩->StepS (r::DA) ro tag0 I tag1 I1->wa tag1 I1 r T st->Row tag1 I1 26 348 ⟨some ⟨x10,0,none⟩,3,3⟩ [Sl.v ⟨none,0,0⟩,Sl.v ⟨none,0,0⟩,vI 0]->
   stN ⟨x10,0,none⟩ (fun I=> ∃(x10_3a:Sl) (x10_3b:Sl) (x10_3c:Int),SL.qg ro I ⟨x10,0,none⟩ 0 [Sl.v x10_3a,Sl.v x10_3b,.int .i64 x10_3c]/\Q x10_3a x10_3b x10_3c e I) [Sl.v (⟨none,0,0⟩:Sl),Sl.v (⟨none,0,0⟩:Sl),.int .i64 bad] 0 I1:=by
  intro e bad tag1 I1 x10 hE st1 hT1 r1
  refine ad7 r1 st1.sep (by simp) (by simp[qh,Sl.v]) fun I2 st2 r2 c2=>?_
  refine⟨⟨none,0,0⟩,⟨none,0,0⟩,bad,c2,?_⟩
  obtain⟨k1,k2,_⟩:=conv tag1 I2 (st1.trans (st2.s (by simp))) _ fun c=>rfl
  rw[hE]at hQ
  refine hQ ⟨none,0,0⟩ ⟨none,0,0⟩ _ I2 k1 ?_ (qq.nil _ _ _) (qq.nil _ _ _)
  refine(hT1.keep st2 (by simp only[List.mem_cons,not_or]at hrD;simp;omega)).retag fun c hc hn=>?_
  refine k2 c hn ?_ ?_
  .simp only[List.mem_cons,not_or]at hrD
   rcases hc with h | h<;>omega
  .rcases hc with h | h
   .intro h';rw[h']at h;omega
   .omega
 refine qj (tag:=tag0) 25 hs fun x8 tag1 I1 st1 r1=>?_
 refine qj (tag:=tag1) 26 (st1 []).sep fun x10 tag2 I2 st2 r2=>?_
 have st02:StepS (r::DA) ro tag0 I tag2 I2:=((st1 []).s (by simp)).trans ((st2 []).s (by simp))
 have hT2:=(hT0.keep (st1 [])).keep (st2 [])
 have hops2:=(hops0.keepS ((st1 []).s (C:=[]) (by simp)) (by simp) (by simp)).keepS ((st2 []).s (C:=[]) (by simp)) (by simp) (by simp)
 by_cases c1:ops.length=0\/16<ops.length
 .rw[if_pos (by omega)]
  exact quick 80 0 tag2 I2 x10 (by unfold qS;rw[if_pos c1]) st02 hT2 r2
 rw[if_neg (by omega)]
 by_cases c2:owner<1\/4611686018427387903<owner
 .rw[if_pos c2]
  exact quick 10 0 tag2 I2 x10 (by unfold qS;rw[if_neg c1,if_pos c2]) st02 hT2 r2
 rw[if_neg c2]
 obtain⟨R0,hR0⟩:∃ R0,vg home owner qn qb ops 0 ⟨srt st,[],[]⟩=R0:=⟨_,rfl⟩
 have hAE:qS st home owner qn qb ops=abg st R0:=by unfold qS;rw[if_neg c1,if_neg c2,hR0]
 have hrD':=hrD
 simp only[List.mem_cons,List.not_mem_nil,or_false,not_or]at hrD'
 have hlen:=hi.len
 obtain⟨M2,bs2,hA2⟩:=hT2
 refine aln hr (by omega) (by omega) (by omega) (by omega) hA2 hi.inv.small (by omega) fun se tag3 I3 st3 r3=>?_
 have hRr:∀ x∈[30,94,1],x%64≠r%64/\x≠6:=fun x hx=>by
  simp only[List.mem_cons,List.not_mem_nil,or_false]at hx;omega
 have hT3:wa tag3 I3 r T st:=⟨M2,bs2,hA2.keep st3 hRr⟩
 have hel:=amu hi (by omega)
 have hdec:=amp (hi.inv3 (by omega)) (by omega)
 refine alo (tag:=tag3) (r:=12) g (by decide) (by decide) (by decide) (by decide) (r3.read st3.sep) (by omega) (fun hn=>by rw[hdec]at hn;cases hn) fun st' hst' U tag4 I4 st4 h4=>?_
 rw[hdec]at hst'
 obtain rfl:=Option.some.inj hst'
 have st3s:StepS (r::DA) ro tag2 I2 tag3 I3:=st3.s (by simp)
 have st4s:StepS (r::DA) ro tag3 I3 tag4 I4:=st4.mono (by simp)
 have hT4:=hT3.keepS st4 (by simp;omega) (by decide)
 have hdC:∀ C:List Nat,(∀c∈C,c∈DA)->∀ i,dr i%64∉C:=fun C hC i hm=>hdr i (List.mem_cons_of_mem _ (hC _ hm))
 have hops4:=(hops2.keepS (st3.s (C:=[30,1]) (by decide)) (by simp only[List.mem_cons,not_or]at hq ⊢;simp;omega) (hdC _ (by decide))).keepS st4 (by simp only[List.mem_cons,not_or]at hq ⊢;simp;omega) (hdC _ (by decide))
 have r84:=((r1.keep (st2 [])).keep st3 (by decide)).keepS st4
 have r104:=(r2.keep st3 (by decide)).keepS st4
 refine⟨qn,qb,Row.cellsAt r84 st4.sep,?_⟩
 refine qj (tag:=tag4) 13 st4.sep fun W tag5 I5 st5 r5=>?_
 have hW5:ab3 tag5 I5 W U home owner qn qb [] []:=⟨⟨none,0,0⟩,⟨none,0,0⟩,r5,qq.nil _ _ _,qq.nil _ _ _⟩
 suffices∀(m j:Nat) (w:uG) (tag6:Nat->Nat) (I6:AH),j+m=ops.length->vg home owner qn qb (ops.drop j) j w=R0->ww (b+j) w.st->w.res.length<=j/\w.eff.length<=j->StepS (r::DA) ro tag0 I tag6 I6->ab3 tag6 I6 W U home owner qn qb w.res w.eff->wa tag6 I6 12 U w.st->wa tag6 I6 r T st->uH dr tag6 I6 q s ops->
   Row tag6 I6 26 348 ⟨some ⟨x10,0,none⟩,3,3⟩ [Sl.v ⟨none,0,0⟩,Sl.v ⟨none,0,0⟩,vI 0]->lfpD (pV B ro (some ⟨T,0,none⟩) s x10 (some ⟨U,0,none⟩) W Q) (j:Int) I6 from
  this _ 0 ⟨srt st,[],[]⟩ tag5 I5 (Nat.zero_add _) hR0 (acC hi) ⟨by simp,by simp⟩ (st02.trans (st3s.trans (st4s.trans ((st5 []).s (by simp))))) hW5 (h4.keep (st5 [])) (hT4.keep (st5 [])) (hops4.keepS ((st5 []).s (C:=[]) (by simp)) (by simp) (by simp)) (r104.keep (st5 []))
 intro m
 induction m with
 | zero=>
  intro j w tag6 I6 hj hap hi6 hl6 st6 hW6 hU6 hT6 hops6 r106
  refine lfpD.intro ?_
  unfold pV
  rw[if_neg (by omega)]
  rw[List.drop_of_length_le (by omega)]at hap
  have hAE':qS st home owner qn qb ops=⟨w.st,w.res,w.eff,-1,0⟩:=by rw[hAE,<-hap];try rfl
  unfold aaP
  obtain⟨M6,bs6,hA6⟩:=hT6
  obtain⟨MU,bsU,hAU⟩:=hU6
  refine⟨_,rfl,some MU,Row.cellsAt hAU.cell st6.sep,_,rfl,?_⟩
  refine ad7 hA6.cell st6.sep (by simp) (by simp[qh]) fun I7 st7 r7 _=>?_
  obtain⟨rs,es,a,bb,cc⟩:=hW6.mem
  have hr13:∀ x:Nat,x∈DA->x∉[r]:=fun x hx h=>by
   rw[List.mem_singleton]at h;rw[h]at hx;exact hrD hx
  refine(a.keep st7 (hr13 13 (by decide))).st (i:=2) st7.sep rfl (by simp) rfl fun I8 st8 r8=>?_
  obtain⟨pw,hpw,hgw⟩:=r8.ptr st8.sep (by simp)
  cases hpw
  refine⟨rs,es,-1,zu 0 fun i v hv=>?_,?_⟩
  .rw[Nat.zero_add]
   rcases i with _ | _ | _ | i
   .cases hv;exact hgw 0 _ rfl
   .cases hv;exact hgw 1 _ rfl
   .cases hv;exact hgw 2 _ rfl
   .cases hv
  have r108:=(r106.keep st7 (hr13 26 (by decide))).keep st8
  refine ad7 r108 st8.sep (by simp) (by simp[qh,Sl.v]) fun I9 st9 r9 c9=>?_
  refine⟨rs,es,-1,c9,?_⟩
  have st69:StepS (r::DA) ro tag0 I tag6 I9:=st6.trans ((st7.s (by simp;omega)).trans ((st8.s (by simp)).trans (st9.s (by simp))))
  obtain⟨k1,k2,k3⟩:=conv tag6 I9 st69 _ fun c=>rfl
  rw[hAE']at hQ
  refine hQ rs es _ I9 k1 ?_ ?_ ?_
  .-- the tree that has taken the place
   have u7:=hAU.keep st7 (by simp;omega)
   have u8:=u7.keep st8
   have u9:=u8.keep st9
   have c79:=(r7.keep st8 (by simp;omega)).keep st9 (by simp;omega)
   refine⟨MU,bsU,u9.keys,u9.len,u9.nd,Row.retag c79 fun c hc hn=>?_,zO.retag u9.map fun c hc hn=>?_,fun i c p hc hp=>?_⟩
   .rw[k2 c hn (by rw[hc];omega) (by omega),hc]
   .rw[k3 c (by rw[hc]),hc];omega
   .obtain⟨ds,n1,n2⟩:=u9.nodes i c p hc hp
    refine⟨ds,Row.retag n1 fun c' hc' hn=>?_,Row.retag n2 fun c' hc' hn=>?_⟩
    .rw[k3 c' (by rw[hc']<;>omega),hc']<;>omega
    .rw[k2 c' hn (by rw[hc'];decide) (by omega),hc']
  .have:=((bb.keep st7 (hr13 14 (by decide))).keep st8).keep st9
   exact qq.retag this fun c hc hn=>by rw[k2 c hn (by rw[hc];decide) (by omega),hc]
  .have:=((cc.keep st7 (hr13 15 (by decide))).keep st8).keep st9
   exact qq.retag this fun c hc hn=>by rw[k2 c hn (by rw[hc];decide) (by omega),hc]
 | succ m ih=>
  intro j w tag6 I6 hj hap hi6 hl6 st6 hW6 hU6 hT6 hops6 r106
  have hjl:j<ops.length:=by omega
  obtain⟨ds,d1,d2,d3⟩:=id hops6
  have hjd:j<ds.length:=by omega
  have hz:(List.zipWith opV ops ds)[j]?=some (opV ops[j] ds[j]):=by
   rw[List.getElem?_zipWith,List.getElem?_eq_getElem hjl,List.getElem?_eq_getElem hjd];try rfl
  have hdj:=d3 j ops[j] ds[j] (List.getElem?_eq_getElem hjl) (List.getElem?_eq_getElem hjd)
  have hdlj:=hdl _ (List.getElem_mem hjl)
  obtain⟨bq,hbq,_,hget⟩:=d2.get st6.sep hz
  have hdrop:ops.drop j=ops[j]::ops.drop (j+1):=List.drop_eq_getElem_cons hjl
  refine lfpD.intro ?_
  unfold pV
  rw[if_pos (by omega)]
  refine⟨_,hbq,by omega,by omega,ops[j].kind,S ops[j].path,ds[j],ops[j].ver,ops[j].eph,ops[j].seq,zu 0 fun i v hv=>?_,?_⟩
  .rw[Int.toNat_natCast,vn,vn,Nat.zero_add,Nat.zero_add]
   exact hget i v hv
  refine xh (tag:=tag6) 27 st6.sep rfl (by simp[qh,Sl.v]) fun x16 tag7 I7 st7 r7=>?_
  refine⟨ops[j].kind,S ops[j].path,ds[j],ops[j].ver,ops[j].eph,ops[j].seq,Row.cellsAt r7 (st7 []).sep,?_⟩
  have k7:∀ C:List Nat,StepS C ro tag6 I6 tag7 I7:=fun C=>(st7 []).s (by simp)
  have hq':=hq
  simp only[List.mem_cons,List.not_mem_nil,or_false,not_or]at hq'
  rw[hdrop]at hap
  unfold vg at hap
  refine as1 (tag:=tag7) (b:=b+j) (w:=w) g (hW6.keepS (k7 []) (by simp) (by simp) (by simp)) (hU6.keep (st7 [])) hi6 (by omega) ⟨by omega,by omega⟩ ((hdj.keep (st7 [])).read (st7 []).sep) hdlj hhl (fun he tag8 I8 st8=>?_) fun he tag8 I8 st8 hW8 hU8=>?_
  .rw[if_pos (by simpa using he)]
   rw[if_pos he]at hap
   have hAE':qS st home owner qn qb ops=⟨st,[],[],(j:Nat),(doE home owner qn qb w ops[j]).1⟩:=by rw[hAE,<-hap];try rfl
   refine quick _ (j:Nat) tag8 I8 x10 hAE' (st6.trans ((k7 _).trans (st8.mono (fun c hc=>List.mem_cons_of_mem _ (arR c hc))))) ((hT6.keep (st7 [])).keepS st8 (by simp;omega) (by decide)) ((r106.keep (st7 [])).keepS st8)
  .rw[if_neg (by simp)]
   rw[if_neg (by simpa using he)]at hap
   rw[Pa.inc j (by omega)]
   have hdl':=anK (home:=home) (owner:=owner) (qn:=qn) (qb:=qb) (w:=w) (o:=ops[j])
   have hi7:ww (b+(j+1)) (doE home owner qn qb w ops[j]).2.st:=by
    have hbj:b+j<=4398046511103:=by omega
    have:=agf (home:=home) (owner:=owner) (qn:=qn) (qb:=qb) (o:=ops[j]) hi6 hbj
    exact this
   refine ih (j+1) _ tag8 I8 (by omega) hap hi7 ⟨by omega,by omega⟩ (st6.trans ((k7 _).trans (st8.mono (fun c hc=>List.mem_cons_of_mem _ (arR c hc))))) hW8 hU8 ((hT6.keep (st7 [])).keepS st8 (by simp;omega) (by decide)) ((hops6.keepS (k7 []) (by simp) (by simp)).keepS st8 (by simp;omega) (hdC _ (by decide))) ((r106.keep (st7 [])).keepS st8)
theorem aqM(g:wV ro)(hr:r<64)(hrD:r∉DA)(hr6:r≠6)(hr63:r≠63)(hq:q%64∉DA)(hq63:q≠63)(hT:wa tag I r T st)(hi:ww b st)(hb:b<=1073741824)
  (hops:adh tag I q s ops) (hdl:∀ o∈ops,o.data.length<4611686018427387904) (hhl:home.length<=4611686018427387903)
  (hQ:∀ (rs es:Sl) (tag':Nat->Nat) (I':AH),StepS (r::DA) ro tag I tag' I'->wa tag' I' r T (qS st home owner qn qb ops).st->qq tag' I' 14 128 2 rs ((qS st home owner qn qb ops).res.map uj)->qq tag' I' 15 336 2 es ((qS st home owner qn qb ops).eff.map aes)->
   Q rs es (qS st home owner qn qb ops).bad (qS st home owner qn qb ops).err I'):
  acb B ro (some ⟨T,0,none⟩) (S home) owner qn qb s I Q:=
 applyD_ok (dr:=fun _=>6) g hr hrD hr6 hr63 hq hq63 hT hi hb (fun _=>by simp only[List.mem_cons,not_or];exact⟨by omega,by decide⟩) hops hdl hhl hQ
end Zt
namespace SL
open Go
variable{ro I I':AH}{tag tag':Nat->Nat}
end SL
namespace Zt
open Go SL G Pa
variable{B:World}{ro I I':AH}{tag tag':Nat->Nat}
variable{n owner qb qn:Int}{ws:List Int}{st:St}{h home:Str}
def bnd(st:St)(home:Str)(qn qb:Int):Prop:=((ze st home).1:Int)<=qn/\((ze st home).2:Int)<=qb
theorem abw(p:Str×Nd)(r:St)(h:Str):ze (p::r) h=((ze r h).1+(if qK p.1=some h then 1 else 0),uw h p+(ze r h).2):=by
 unfold ze
 rw[List.countP_cons,List.map_cons,List.sum_cons]
 simp
theorem ag6{u:Str}{f:Nd->Nd}(hf:∀ n,(f n).data=n.data):∀ st,ze (wi st u f) h=ze st h
 | []=>rfl
 | p::r=>by
  have ih:=ag6 (u:=u) hf r
  show ze ((if p.1=u then(p.1,f p.2)else p)::wi r u f) h=_
  rw[abw,abw,ih]
  have e1:uw h (if p.1=u then(p.1,f p.2)else p)=uw h p:=by
   split
   .unfold uw;rw[hf]
   .rfl
  have e2:(if p.1=u then(p.1,f p.2)else p).1=p.1:=by split<;>rfl
  rw[e1,e2]
theorem aj4{k:Str}:∀ st,(ze (yn st k) h).1<=(ze st h).1/\(ze (yn st k) h).2<=(ze st h).2
 | []=>⟨Nat.le_refl _,Nat.le_refl _⟩
 | (k',n)::r=>by
  have ih:=aj4 (k:=k) r
  unfold yn
  split
  .rw[abw];exact⟨by simp,by simp⟩
  .rw[abw,abw];exact⟨by simp only;omega,by simp only;omega⟩
theorem aj5{p:Str}{v:Int}(h:bnd st home qn qb):bnd (wL st p v).1 home qn qb:=by
 unfold wL
 split
 .exact h
 .split
  .exact h
  .split
   .exact h
   .split
    .exact h
    .split
     .exact h
     .rename_i u hu
      obtain⟨a,b⟩:=aj4 (h:=home) (k:=p) (wi st u yy)
      rw[ag6 (f:=yy) (fun n=>rfl) st]at a b
      obtain⟨c,d⟩:=h
      unfold bnd
      simp only
      exact⟨by omega,by omega⟩
theorem as3{w:uG}{o:MOp}(h:bnd w.st home qn qb)(he:(doE home owner qn qb w o).1=0):bnd (doE home owner qn qb w o).2.st home qn qb:=by
 unfold doE at he⊢
 split at he
 .rename_i hc;exact absurd he hc
 .rename_i hw
  rw[if_neg hw]
  split at he
  .rename_i hc;exact absurd he hc
  .rename_i hc
   rw[if_neg hc]
   split at he
   .cases he
   .rename_i ho
    rw[if_neg ho]
    simp only
    simp only[Classical.not_not]at hw
    have hk:1<=o.kind/\o.kind<=4:=by
     unfold zC at hw
     split at hw
     .cases hw
     .omega
    unfold adP at ho
    by_cases k13:o.kind=1\/o.kind=3
    .have:(decide (o.kind=1) || decide (o.kind=3))=true:=by rcases k13 with k | k<;>simp[k]
     rw[this]at ho
     simp only[Bool.true_and,Bool.or_eq_true,decide_eq_true_eq,not_or]at ho
     exact⟨by omega,by omega⟩
    .unfold xf
     rw[if_neg (by omega)]
     by_cases k2:o.kind=2
     .rw[if_pos k2];exact aj5 h
     .rw[if_neg k2,if_neg (by omega)];exact h
theorem aos:∀ {os:List MOp} {i:Nat} {w w':uG},vg home owner qn qb os i w= .inr w'->bnd w.st home qn qb->bnd w'.st home qn qb:=by
 intro os
 induction os with
 | nil=>intro i w w' h hb;cases h;exact hb
 | cons o os ih=>
  intro i w w' h hb
  unfold vg at h
  split at h
  .cases h
  .rename_i hc
   exact ih h (as3 hb (by simpa using hc))
theorem apy{ops:List MOp}(h:bnd st home qn qb):bnd (qS st home owner qn qb ops).st home qn qb:=by
 unfold qS
 split
 .exact h
 .split
  .exact h
  .cases e:vg home owner qn qb ops 0 ⟨srt st,[],[]⟩with
   | inl x=>exact h
   | inr w=>
    refine aos e ?_
    unfold bnd
    simp only
    rw[ag0 (vr st)]
    exact h
theorem am7{s:Sl}{Q:Bool->AH->Prop}(h:SL.zw ro I s (ws.map vI))(hl:ws.length<=4611686018427387903)(hQ:Q (decide (n∈ws)) I):yv B ro s n I Q:=by
 refine ael fun _=>?_
 unfold yw
 refine afl fun _=>?_
 unfold uf
 obtain⟨a1,a2,a3⟩:=h
 rw[List.length_map]at a1
 suffices∀m j,j+m=ws.length->(∀i,i<j->ws[i]?≠some n)->lfpD (kG B ro s n fun x7_1 I=>Q (decide (0<=x7_1)) I) (j:Int) I from this _ 0 (Nat.zero_add _) fun i h=>absurd h (Nat.not_lt_zero _)
 intro m
 induction m with
 | zero=>
  intro j hj hno
  refine lfpD.intro ?_
  unfold kG
  rw[if_neg (by omega)]
  unfold ji
  rw[decide_eq_false (fun hm=>?_)]at hQ
  .exact hQ
  .obtain⟨i,hi,e⟩:=List.getElem_of_mem hm
   exact hno i (by omega) (by rw[List.getElem?_eq_getElem hi,e])
 | succ m ih=>
  intro j hj hno
  have hjl:j<ws.length:=by omega
  obtain⟨p,hp⟩:∃ p,s.a=some p:=by
   cases e:s.a with
   | none=>have:=a2 e;simp at this;rw[this]at hjl;simp at hjl
   | some p=>exact⟨p,rfl⟩
  refine lfpD.intro ?_
  unfold kG
  rw[if_pos (by omega)]
  refine⟨p,hp,by omega,by omega,ws[j],by rw[Int.toNat_natCast,Nat.mul_one];exact a3 p hp j _ (by rw[List.getElem?_map,List.getElem?_eq_getElem hjl];try rfl),?_⟩
  by_cases c:n=ws[j]
  .rw[if_pos c]
   rw[decide_eq_true (by rw[c];exact List.getElem_mem hjl)]at hQ
   rw[decide_eq_true (by omega)];exact hQ
  .rw[if_neg c,Pa.inc j (by omega)]
   refine ih (j+1) (by omega) fun i hi=>?_
   rcases Nat.lt_or_ge i j with h | h
   .exact hno i h
   .obtain rfl:i=j:=by omega
    rw[List.getElem?_eq_getElem hjl]
    exact fun e=>c (Option.some.inj e).symm
def aav(st:St)(ws:List Int)(k:Str):Bool:=match st.lookup k with
 | some n=>decide (n.own≠0/\n.own∈ws)
 | none=>false
theorem aqN{r T q:Nat}{a1:Sl}{Q:Sl->AH->Prop}(hr:r<64)(hr0:r≠0)(hq:q<64)(hqr:q≠r)(hq6:q≠6)(h:wa tag I r T st)(hs:∀ p∈st,p.1.length<=128)(hn:st.length<=4294967296)(hw:SL.zw ro (fun _=>none) a1 (ws.map vI))(hwl:ws.length<=4611686018427387903)
  (hQ:∀ (s:Sl) (tag':Nat->Nat) (I':AH) (ks:List Str),StepS [0,q] ro tag I tag' I'->ks.Perm (st.map (·.1))->ks.Pairwise (· <= ·)->Row tag' I' q 9 s ((ks.filter fun k=>aav st ws k).map Pa.vS)->Q s I'):aa1 B ro (some ⟨T,0,none⟩) a1 I Q:=by
 obtain⟨M,bs,hA⟩:=h
 refine ahw fun hsep=>?_
 unfold aa7
 refine agV (q:=q+64) hA hs (by omega) fun s tag2 I2 ks st2 hpm hsrt hr2=>?_
 have hln:s.len=ks.length:=by rw[hr2.len,List.length_map]
 have hkl:ks.length=st.length:=by rw[hpm.length_eq,List.length_map]
 suffices∀m j (so:Sl) tag3 I3,j+m=ks.length->qe [q] ro tag2 I2 tag3 I3->Row tag3 I3 q 9 so (((ks.take j).filter fun k=>aav st ws k).map Pa.vS)->lfpD (kZ B ro (some ⟨T,0,none⟩) a1 s Q) (so,(j:Int)) I3 from
  this _ 0 ⟨none,0,0⟩ tag2 I2 (Nat.zero_add _) (qe.refl (st2 []).sep) (Row.nil q 9)
 intro m
 induction m with
 | zero=>
  intro j so tag3 I3 hj st3 hso
  refine lfpD.intro ?_
  unfold kZ
  simp only
  rw[if_neg (by omega)]
  unfold pq
  rw[List.take_of_length_le (by omega)]at hso
  exact hQ so tag3 I3 ks (((st2 []).s (by simp)).trans (st3.s (by simp[Nat.mod_eq_of_lt hq]))) hpm hsrt hso
 | succ m ih=>
  intro j so tag3 I3 hj st3 hso
  have hjl:j<ks.length:=by omega
  have hs3:=hr2.keep st3
  obtain⟨pp,hpp,_,hget⟩:=Row.sget hs3 st3.sep hjl
  have hA3:=(hA.keep (st2 [])).keep st3 (by simp;omega)
  have etk:ks.take (j+1)=ks.take j++[ks[j]]:=by rw[List.take_add_one,List.getElem?_eq_getElem hjl];try rfl
  have hnl:((ks.take j).filter fun x=>aav st ws x).length<=j:=by
   refine Nat.le_trans (List.length_filter_le _ _) ?_
   rw[List.length_take];omega
  refine lfpD.intro ?_
  unfold kZ
  simp only
  rw[if_pos (by omega)]
  refine⟨pp,hpp,by omega,by omega,S ks[j],hget j hjl,_,rfl,_,Row.cell1 hA3.cell st3.sep,?_⟩
  refine jv hA3.map st3.sep u126 u9 agR ?_
  rcases aa9 st bs ks[j] hA.len with⟨a,e⟩ | ⟨i,b,n,a1',a2',a3',e⟩
  .exact absurd (hpm.mem_iff.1 (List.getElem_mem hjl)) (abY a)
  rw[e]
  obtain⟨ds,hnd,_⟩:=hA3.nodes i b _ a1' a2'
  obtain⟨pb,hpb,hgb⟩:=hnd.ptr st3.sep (by simp)
  cases hpb
  refine⟨some ⟨b,0,none⟩,rfl,_,rfl,n.own,hgb 2 _ rfl,?_⟩
  have hio:aav st ws ks[j]=decide (n.own≠0/\n.own∈ws):=by unfold aav;rw[a3']
  have go:∀ x:Bool,x=aav st ws ks[j]->ko B ro (some ⟨T,0,none⟩) a1 so s (j:Int) (S ks[j]) Q (lfpD (kZ B ro (some ⟨T,0,none⟩) a1 s Q)) x I3:=fun x hx=>by
   unfold ko
   cases x with
   | true=>
    rw[if_pos rfl]
    refine qj (tag:=tag3) 0 st3.sep fun X tag4 I4 st4 r4=>?_
    refine afH (hso.keep (st4 [])) (st4 []).sep Pa.t25 ty9 rfl rfl (Row.cell1 r4 (st4 []).sep) rfl (by rw[List.length_map];omega) (by decide) fun s' tag5 I5 st5 r5=>?_
    refine⟨s',rfl,?_⟩
    unfold kY
    rw[Pa.inc j (by omega)]
    refine ih (j+1) s' tag5 I5 (by omega) (st3.trans ((st4 _).trans st5)) ?_
    rw[etk,List.filter_append,List.filter_cons_of_pos hx.symm,List.filter_nil,List.map_append]
    exact r5
   | false=>
    rw[if_neg (by simp)]
    unfold kY
    rw[Pa.inc j (by omega)]
    refine ih (j+1) so tag3 I3 (by omega) st3 ?_
    rw[etk,List.filter_append,List.filter_cons_of_neg (by rw[<-hx];simp),List.filter_nil,List.append_nil]
    exact hso
  by_cases c0:n.own=0
  .rw[if_neg (by simpa using c0)]
   exact go false (by rw[hio];simp[c0])
  .rw[if_pos c0]
   refine am7 hw.keep hwl ?_
   exact go _ (by rw[hio];simp[c0])
theorem aqO{s:ByteArray}{Q:ByteArray->Int->AH->Prop}(g:wV ro)(hQ:∀ e tag' I',qe [] ro tag I tag' I'->Q (S ((qK (L s)).getD [])) e I'):yD B ro s I Q:=by
 cases hp:parts (L s)with
 | some ps=>exact akK g hp fun tag' I' st=>hQ 0 tag' I' st
 | none=>
  refine ae2 fun hs=>?_
  unfold abW
  refine ag4 (tag:=tag) 0 g hs (fun h tag1 I1 st1=>?_) fun ps' h=>by rw[hp]at h;cases h
  rw[if_pos (by rfl)]
  have:=hQ 20 tag1 I1 st1
  unfold qK at this
  rw[hp]at this
  exact this
end Zt
namespace SL
open Go
variable{B:World}{ro I I':AH}{tag tag':Nat->Nat}
variable{I0:AH}{b r:Nat}{s:Sl}{e:TypeId}
def prn(I0 I:AH):AH:=fun b=>match I b with
 | some o=>if o.isCells=true\/(I0 b).isSome=true then some o else none
 | none=>none
theorem apz(I0 I:AH):HLe (prn I0 I) I:=fun b o h=>by
 unfold prn at h
 split at h
 .rename_i x e
  split at h
  .cases h;exact e
  .cases h
 .cases h
theorem alr{c:Array Value}{fz:Nat×Nat}(h:I b=some (.cells c e fz)):prn I0 I b=some (.cells c e fz):=by
 unfold prn;rw[h];simp[Obj.isCells]
theorem akN{o o0:Obj}(h0:I0 b=some o0)(h:I b=some o):prn I0 I b=some o:=by
 unfold prn;rw[h,h0];simp
theorem as4{o:Obj}(h:prn I0 I b=some o)(hc:o.isCells=false):∃ o',I0 b=some o':=by
 unfold prn at h
 split at h
 .split at h
  .rename_i hx
   cases h
   rw[hc]at hx
   rcases hx with hx | hx
   .cases hx
   .exact Option.isSome_iff_exists.1 hx
  .cases h
 .cases h
theorem Row.prn{l:List Value}(h:Row tag I r e s l):Row tag (prn I0 I) r e s l:=by
 rcases h with h | ⟨b,cs,ha,ht,hs,hx⟩
 .exact .inl h
 .exact .inr ⟨b,cs,ha,ht,alr hs,hx⟩
theorem qq.prn{w:Nat}{l:List (List Value)}(h:qq tag I r e w s l):qq tag (prn I0 I) r e w s l:=by
 rcases h with h | ⟨b,cs,ha,ht,hs,hx⟩
 .exact .inl h
 .exact .inr ⟨b,cs,ha,ht,alr hs,hx⟩
theorem StepS.prn{C:List Nat}(h:StepS C ro tag I tag' I'):StepS C ro tag I tag' (prn I I'):=by
 obtain⟨R,h1,h2⟩:=h
 refine⟨R,h1,fun b o hb hn=>?_,fun b o hb=>?_,fun b o hb=>h2.sep b o (apz _ _ b o hb)⟩
 .obtain⟨t,e⟩:=h2.keep b o hb hn
  exact⟨t,akN hb e⟩
 .obtain⟨t,o',e⟩:=h2.old b o hb
  exact⟨t,o',akN hb e⟩
end SL
namespace Zt
open Go SL G Pa
variable{B:World}{ro I I':AH}{tag tag':Nat->Nat}
variable{T b r:Nat}{st:St}{home p:Str}{a:St×List Str}
theorem qZ.prn{I0:AH}{M:Nat}{bs:List Nat}{o0:Obj}(h:qZ tag I r T M bs st)(h0:I0 M=some o0):qZ tag (SL.prn I0 I) r T M bs st:=by
 refine⟨h.keys,h.len,h.nd,h.cell.prn,?_,fun i b p hb hp=>?_⟩
 .obtain⟨es,c,hb,hx⟩:=h.map.obj
  exact⟨h.map.tg,es,c,akN h0 hb,hx⟩
 .obtain⟨s,h1,h2⟩:=h.nodes i b p hb hp
  exact⟨s,h1.prn,h2.prn⟩
def yd(home:Str)(a:St×List Str)(p:Str):St×List Str:=
 if(qK p).getD []=home/\(wL a.1 p (-1)).2=0 then((wL a.1 p (-1)).1,a.2++[p])else a
def adi(st:St)(ws:List Int):List Str:=(((srt st).map (·.1)).filter fun k=>aav st ws k).reverse
def pd(st:St)(home:Str)(ws:List Int):St×List Str:=(adi st ws).foldl (yd home) (st,[])
def ajq(p:Str):List Value:=aes (2,p)
theorem apA(h:ww b a.1)(hb:b<=4398046511103):ww (b+1) (yd home a p).1:=by
 unfold yd
 split
 .exact ai6 h hb
 .exact h.mono (by omega)
theorem apB:(yd home a p).2.length<=a.2.length+1:=by
 unfold yd
 split
 .simp
 .simp
theorem aj6:∀ (ks:List Str) {a:St×List Str} {b:Nat},ww b a.1->b+ks.length<=4398046511103->ww (b+ks.length) (ks.foldl (yd home) a).1/\(ks.foldl (yd home) a).2.length<=a.2.length+ks.length:=by
 intro ks
 induction ks with
 | nil=>intro a b h _;exact⟨h,Nat.le_refl _⟩
 | cons k ks ih=>
  intro a b h hb
  simp only[List.length_cons]at hb
  obtain⟨h1,h2⟩:=ih (a:=yd home a k) (apA h (by omega)) (by omega)
  have:=apB (home:=home) (a:=a) (p:=k)
  simp only[List.foldl_cons,List.length_cons]
  exact⟨by rw[show b+(ks.length+1)=b+1+ks.length by omega];exact h1,by omega⟩
theorem as5(zs:List ByteArray):(Back.upto (Back.bk zs) zs.length).map (·.2)=zs.reverse:=by
 apply List.ext_getElem
 .simp[Back.upto]
 .intro i h1 h2
  simp at h2
  have:zs.length - 1 - i<zs.length:=by omega
  simp[Back.upto,Back.bk,List.getElem?_eq_getElem this]
theorem aqP{q q2:Nat}{ws:List Int}{a2:Sl}{Q:Sl->AH->Prop}(g:wV ro)(hr:r<64)(hr0:r≠0)(hr6:r≠6)(hq:q<64)(hq2:q2<64)(hqs:q∉[0,6,r])(hq2s:q2∉[0,6,r,q])
  (h:wa tag I r T st) (hi:ww b st) (hb:b<=1073741824) (hw:SL.zw ro (fun _=>none) a2 (ws.map vI)) (hwl:ws.length<=4611686018427387903)
  (hQ:∀ es tag' I',StepS [0,r,q,q2] ro tag I tag' I'->wa tag' I' r T (pd st home ws).1->qq tag' I' (q2+256) 336 2 es ((pd st home ws).2.map ajq)->Q es I'):
  aan B ro (some ⟨T,0,none⟩) (S home) a2 I Q:=by
 refine akM fun hs=>?_
 simp only[List.mem_cons,List.not_mem_nil,or_false,not_or]at hqs hq2s
 have hlen:=hi.len
 unfold amy
 refine qj (tag:=tag) q2 hs fun b3 tag1 I1 st1 r3=>?_
 refine qj (tag:=tag1) (q2+64) (st1 []).sep fun b4 tag2 I2 st2 r4=>?_
 refine qj (tag:=tag2) (q2+128) (st2 []).sep fun b7 tag3 I3 st3 r7=>?_
 have r3':=(r3.keep (st2 [])).keep (st3 [])
 refine⟨some ⟨T,0,none⟩,Row.cell1 r3' (st3 []).sep,?_⟩
 have hT3:=((h.keep (st1 [])).keep (st2 [])).keep (st3 [])
 have hsm:=hi.inv.small
 refine aqN (tag:=tag3) (q:=q) hr hr0 hq (by omega) (by omega) hT3 (fun p hp=>(hsm p hp).1) (by omega) hw hwl fun s tag4 I4 ks st4 hpm hsr rs=>?_
 have st04:StepS [0,r,q,q2] ro tag I tag4 I4:=(((st1 []).s (by simp)).trans ((st2 []).s (by simp))).trans (((st3 []).s (by simp)).trans (st4.mono (by simp)))
 refine qj (tag:=tag4) (q+64) st4.sep fun bb tag5 I5 st5 rb=>?_
 obtain⟨M,bs,hA⟩:=(hT3.keepS st4 (by simp;omega) (by simp;omega)).keep (st5 [])
 have r35:=(r3'.keepS st4 (by simp;omega)).keep (st5 [])
 have r45:=((r4.keep (st3 [])).keepS st4 (by simp;omega)).keep (st5 [])
 have r75:=(r7.keepS st4 (by simp;omega)).keep (st5 [])
 have rs5:=rs.keep (st5 [])
 have eks:=agU hi.inv.keys hpm hsr
 rw[eks]at rs5
 have hK:adi st ws=((((srt st).map (·.1)).filter fun k=>aav st ws k)).reverse:=rfl
 generalize hks:(((srt st).map (·.1)).filter fun k=>aav st ws k)=own at rs5 hK
 have hol:own.length<=st.length:=by
  rw[<-hks]
  refine Nat.le_trans (List.length_filter_le _ _) ?_
  rw[List.length_map,(vr st).length_eq]
  exact Nat.le_refl _
 obtain⟨sw,hsw⟩:∃ sw:List (Int×ByteArray)->St×List Str,sw=fun pre=>(pre.map fun x=>L x.2).foldl (yd home) (st,[]):=⟨_,rfl⟩
 have hM5:∃ oM,I5 M=some oM:=by
  obtain⟨es,c,hb,_⟩:=hA.map.obj
  exact⟨_,hb⟩
 obtain⟨oM,hM5⟩:=hM5
 let J:List (Int×ByteArray)->AH->Prop:=fun pre I'=> ∃tag' bs' es,StepS [0,r,q2] ro tag5 I5 tag' I'/\qZ tag' I' r T M bs' (sw pre).1/\qq tag' I' (q2+256) 336 2 es ((sw pre).2.map ajq)/\
  Row tag' I' (q2+128) 258 ⟨some ⟨b7,0,none⟩,1,1⟩ [Sl.v es]/\Row tag' I' q2 61 ⟨some ⟨b3,0,none⟩,1,1⟩ [.pointer (some ⟨T,0,none⟩)]/\Row tag' I' (q2+64) 9 ⟨some ⟨b4,0,none⟩,1,1⟩ [.string (S home)]/\
  ∀b o,I' b=some o->o.isCells=false->∃ o',I5 b=some o'
 have hwd:∀ pre:List (Int×ByteArray),pre.length<=own.length->ww (b+pre.length) (sw pre).1/\(sw pre).2.length<=pre.length:=fun pre hp=>by
  have:=aj6 (home:=home) (pre.map fun x=>L x.2) (a:=(st,[])) hi (by rw[List.length_map];omega)
  rw[hsw]
  simpa using this
 refine⟨own.map S,J,?_,by rw[List.length_map];omega,⟨tag5,bs,⟨none,0,0⟩,StepS.refl (st5 []).sep,by rw[hsw];exact hA,qq.nil _ _ _ |> (by rw[hsw];exact ·),r75,r35,r45,fun b o hb _=>⟨o,hb⟩⟩,?_,?_,?_,?_⟩
 .rcases rs5 with⟨e1,e2⟩ | ⟨bz,cs,e1,e2,e3,e4,e5,e6,e7⟩
  .exact .inl ⟨e1,by rw[List.map_eq_nil_iff]at e2 ⊢;exact e2⟩
  .refine .inr ⟨bz,s.cap,_,?_,e3,?_,?_⟩
   .rw[List.length_map]at e4⊢
    cases s;simp only at e1 e4;rw[e1,e4]
   .rintro pre I' ⟨tg,bs',es,k,_⟩
    obtain⟨R,k1,k2⟩:=k
    exact(k2.keep bz _ e3 (fun hm=>by have:=k1 _ hm;rw[e2]at this;simp at this;omega)).2
   .intro j hj
    rw[List.length_map]at hj
    have:=e7 j (by rw[List.length_map];exact hj)
    simp only[vy,Option.isSome_none,Bool.false_eq_true,if_false]
    rw[this]
    simp[List.getElem?_eq_getElem hj,Pa.vS]
 .rintro pre I' ⟨tg,bs',es,_,_,_,_,_,_,hn⟩
  exact hn
 .rcases rb with⟨e1,_⟩ | ⟨bz,cs,e1,e2,e3,e4,e5,e6,e7⟩
  .cases e1
  .cases e1
   refine⟨_,e3,?_,?_⟩
   .have:=e7 0 (by simp)
    simp only[vy,Option.isSome_none,Bool.false_eq_true,if_false]
    rw[this];try rfl
   .rintro pre I' ⟨tg,bs',es,k,_⟩
    obtain⟨R,k1,k2⟩:=k
    exact(k2.keep _ _ e3 (fun hm=>by have:=k1 _ hm;rw[e2]at this;simp at this;omega)).2
 .-- a round
  rintro pre x I6 ⟨tag6,bs6,es6,st6,hA6,rE6,r76,r36,r46,hn6⟩ hlen6
  rw[List.length_map]at hlen6
  obtain⟨hi6,hl6⟩:=hwd pre (by omega)
  obtain⟨p,hp⟩:∃ p,x.2=S p:=⟨L x.2,(S_L _).symm⟩
  have hsw':sw (pre++[x])=yd home (sw pre) p:=by
   rw[hsw]
   simp[hp]
  have hlen6':=hi6.len
  have done:∀ tag7 I7 bs7 es7,StepS [0,r,q2] ro tag6 I6 tag7 I7->qZ tag7 I7 r T M bs7 (sw (pre++[x])).1->qq tag7 I7 (q2+256) 336 2 es7 ((sw (pre++[x])).2.map ajq)->
    Row tag7 I7 (q2+128) 258 ⟨some ⟨b7,0,none⟩,1,1⟩ [Sl.v es7]->Row tag7 I7 q2 61 ⟨some ⟨b3,0,none⟩,1,1⟩ [.pointer (some ⟨T,0,none⟩)]->Row tag7 I7 (q2+64) 9 ⟨some ⟨b4,0,none⟩,1,1⟩ [.string (S home)]->
    (∀b o,I6 b=some o->∃ o',I7 b=some o')/\∃ I8,HLe I8 I7/\J (pre++[x]) I8:=fun tag7 I7 bs7 es7 st7 h1 h2 h3 h4 h5=>by
   refine⟨fun b o hb=>?_,SL.prn I5 I7,apz _ _,tag7,bs7,es7,(st6.trans st7).prn,h1.prn hM5,h2.prn,h3.prn,h4.prn,h5.prn,fun b o hb hc=>as4 hb hc⟩
   obtain⟨R,_,k⟩:=st7
   exact(k.old b o hb).2
  unfold rnd
  rw[hp]
  refine aqO (tag:=tag6) g fun e tag7 I7 st7=>?_
  refine⟨S home,Row.cell1 (r46.keep st7) st7.sep,?_⟩
  rw[L_S]
  by_cases c:(qK p).getD []=home
  .rw[if_pos (by rw[c])]
   refine⟨some ⟨T,0,none⟩,Row.cell1 (r36.keep st7) st7.sep,?_⟩
   refine ajY (tag:=tag7) g hr hr6 hr0 (hA6.keep st7) (by rw[L_S];exact apt hi6.inv) fun tag8 I8 bs8 st8 hA8=>?_
   rw[L_S]at hA8⊢
   have k78:StepS [0,r,q2] ro tag6 I6 tag8 I8:=(st7.s (by simp)).trans (st8.s (by simp))
   have kr:∀ {x:Nat},x%64≠r->True:=fun _=>trivial
   have r38:=(r36.keep st7).keepC st8 (by omega)
   have r48:=(r46.keep st7).keepC st8 (by omega)
   have r78:=(r76.keep st7).keepC st8 (by omega)
   have rE8:=(rE6.keep st7).keepC st8 (by omega)
   unfold akL
   by_cases ce:(wL (sw pre).1 p (-1)).2=0
   .rw[if_pos (by simpa using ce)]
    have hsw2:yd home (sw pre) p=((wL (sw pre).1 p (-1)).1,(sw pre).2++[p]):=by unfold yd;rw[if_pos ⟨c,ce⟩]
    rw[hsw2]at hsw'
    refine⟨es6,Row.cell1 r78 st8.sep,?_⟩
    refine qj (tag:=tag8) (q2+320) st8.sep fun z tag9 I9 st9 r9=>?_
    refine uh (l2:=[ajq p]) (rE8.keep (st9 [])) (st9 []).sep (Row.readW1 r9 (st9 []).sep rfl (by decide)) (t:=258) (by kernel_rfl) abq rfl (by simp[ajq,aes,qh]) (by simp;omega) (by decide) fun es' taga Ia sta ra=>?_
    have sta':=sta [q2+256] (.inr (by simp))
    refine⟨es',rfl,?_⟩
    have r7a:=(r78.keep (st9 [])).keep sta'
    refine ad7 r7a sta'.sep (by simp) (by simp[qh,Sl.v]) fun Ib stb rb7 _=>?_
    have kb:StepS [0,r,q2] ro tag6 I6 taga Ib:=k78.trans (((st9 []).s (by simp)).trans ((sta'.s (by simp;omega)).trans (stb.s (by simp;omega))))
    refine done taga Ib bs8 es' kb ?_ ?_ rb7 ?_ ?_
    .rw[hsw']
     exact((hA8.keep (st9 [])).keep sta' (by simp;omega)).keep stb (by simp;omega)
    .rw[hsw',List.map_append]
     exact qq.keep ra stb
    .exact((r38.keep (st9 [])).keep sta').keep stb
    .exact((r48.keep (st9 [])).keep sta').keep stb
   .rw[if_neg (by simpa using ce)]
    have hsw2:yd home (sw pre) p=sw pre:=by unfold yd;rw[if_neg (fun h=>ce h.2)]
    rw[hsw2]at hsw'
    have hre:(wL (sw pre).1 p (-1)).1=(sw pre).1:=by
     rcases abZ (sw pre).1 p (-1)with⟨e,_,h2⟩ | ⟨n,u,h2,_⟩
     .rw[h2]
     .rw[h2]at ce;exact absurd rfl ce
    rw[hre]at hA8
    exact done tag8 I8 bs8 es6 k78 (by rw[hsw'];exact hA8) (by rw[hsw'];exact rE8) r78 r38 r48
  .rw[if_neg (fun h=>c (ab9.1 h))]
   unfold akL
   rw[if_neg (by simp)]
   have hsw2:yd home (sw pre) p=sw pre:=by unfold yd;rw[if_neg (fun h=>c h.1)]
   rw[hsw2]at hsw'
   exact done tag7 I7 bs6 es6 (st7.s (by simp)) (by rw[hsw'];exact hA6.keep st7) (by rw[hsw'];exact rE6.keep st7) (r76.keep st7) (r36.keep st7) (r46.keep st7)
 .rintro I' ⟨tag6,bs6,es6,st6,hA6,rE6,r76,r36,r46,hn6⟩
  refine⟨es6,Row.cell1 r76 st6.sep,?_⟩
  have hE:sw (Back.upto (Back.bk (own.map S)) (own.map S).length)=pd st home ws:=by
   rw[hsw]
   show List.foldl _ _ (List.map (fun x:Int×ByteArray=>L x.2) _)=_
   rw[show(fun x:Int×ByteArray=>L x.2)=L ∘ (fun x=>x.2)from rfl,<-List.map_map,as5]
   unfold pd
   rw[hK,List.map_reverse,List.map_map]
   have:(L ∘ S)=id:=by funext l;rfl
   rw[this,List.map_id]
  rw[hE]at hA6 rE6
  exact hQ es6 tag6 I' (st04.trans (((st5 []).s (by simp)).trans (st6.mono (by simp)))) ⟨M,bs6,hA6⟩ rE6
end Zt
namespace Zt
open Go SL Pa Wi
structure jQ where
 nonce:Int
 lease:Int
 beats:Int
 req:Int
 reply:Str
structure kW where
 last:Int
 live:List (Int×jQ)
abbrev Tbl:=List (Str×kW)
def okN(n:Int):Bool:=decide (1<=n) && decide (n<=4611686018427387903)
def qJ(t:Tbl)(home:Str):kW:=(qI t home).getD ⟨0,[]⟩
def adQ(h:kW)(nonce:Int):Option (Int×jQ):=h.live.find? fun p=>decide (p.2.nonce=nonce)
def aeJ(h:kW)(nonce lease:Int):kW:=⟨h.last+1,wD h.live (h.last+1) ⟨nonce,lease,0,0,[]⟩⟩
def vm(t:Tbl)(home:Str)(nonce lease:Int):Tbl×Int×Int:=
 if we home=false then(t,0,82)
 else if okN nonce=false then(t,0,10)
 else if lease<1\/1048576<lease then(t,0,153)
 else match adQ (qJ t home) nonce with
  | some p=>(t,p.1,0)
  | none=>if 64<=(qJ t home).live.length\/(qJ t home).last=4611686018427387903 then(t,0,61)
   else(wD t home (aeJ (qJ t home) nonce lease),(qJ t home).last+1,0)
def jj(t:Tbl)(k:Str×Int):Int×Option jQ:=match qI t k.1 with
 | none=>(150,none)
 | some h=>if k.2<1\/h.last<k.2 then(150,none)else match qI h.live k.2 with
  | none=>(151,none)
  | some s=>(0,some s)
def adB(t:Tbl)(k:Str×Int)(s:jQ):Tbl:=match qI t k.1 with
 | none=>t
 | some h=>wD t k.1 {h with live:=wD h.live k.2 s}
def afV(t:Tbl)(k:Str×Int):Tbl:=match qI t k.1 with
 | none=>t
 | some h=>wD t k.1 {h with live:=jN h.live k.2}
def kk(t:Tbl)(k:Str×Int)(req:Int):Str×Bool×Int:=match jj t k with
 | (_,some s)=>if okN req=false then([],false,10)else if req=s.req then(s.reply,true,0)else if req<s.req then([],false,152)else([],false,0)
 | (e,none)=>([],false,e)
def adj(t:Tbl)(k:Str×Int)(req:Int)(b:Str):Tbl×Int:=match jj t k with
 | (_,some s)=>if okN req=false then(t,10)else if req<=s.req then(t,152)else(adB t k {s with req:=req,reply:=b},0)
 | (e,none)=>(t,e)
def ab4(t:Tbl)(k:Str×Int):Tbl×Int:=match jj t k with
 | (_,some s)=>(adB t k {s with beats:=s.beats+1},0)
 | (e,none)=>(t,e)
def kw(t:Tbl)(k:Str×Int)(beats:Int):Tbl×Bool:=match jj t k with
 | (_,some s)=>if s.beats=beats then(afV t k,true)else(t,false)
 | (_,none)=>(t,false)
def aaq(t:Tbl)(k:Str×Int):Tbl×Int:=match jj t k with
 | (_,some _)=>(afV t k,0)
 | (e,none)=>(t,e)
abbrev xP:=Str×Int
structure jR where
 events:List (Int×Int×Str)
 acked:Int
 last:Int
 marks:List xP
abbrev Hub:=List ((Str×Int)×jR)
def adk(k:Str×Int)(m:xP):Int:=
 if m.2≠1/\m.2≠2 then 160
 else if parts m.1=none then 20
 else if(qK m.1).getD []≠k.1\/we k.1=false\/k.2<1\/4611686018427387903<k.2 then 82 else 0
theorem aqQ{p h:Str}(hn:we h=true)(e:(qK p).getD []=h):qK p=some h:=by
 cases hp:qK p with
 | none=>rw[hp]at e;subst e;exact absurd hn (by decide)
 | some x=>rw[hp]at e;exact congrArg some e
theorem am8{k:Str×Int}{m:xP}(h:adk k m=0):qK m.1=some k.1/\we k.1=true/\1<=k.2/\k.2<=4611686018427387903:=by
 unfold adk at h
 split at h
 .cases h
 .split at h
  .cases h
  .split at h
   .cases h
   .rename_i c
    simp only[not_or,Classical.not_not,Bool.not_eq_false]at c
    exact⟨aqQ c.2.1 c.1,c.2.1,by omega,by omega⟩
def vt(h:Hub)(k:Str×Int):jR:=(qI h k).getD ⟨[],0,0,[]⟩
def aqR(d:jR)(m:xP):jR:={d with marks:=if m∈d.marks then d.marks else d.marks++[m]}
def pE(h:Hub)(k:Str×Int)(m:xP):Hub×Int:=
 if adk k m≠0 then(h,adk k m)
 else if m∉(vt h k).marks/\32<=(vt h k).marks.length+(vt h k).events.length then(h,61)
 else(wD h k (aqR (vt h k) m),0)
def akO(d:jR)(kind:Int)(p:Str):jR:={d with last:=d.last+1,events:=d.events++[(d.last+1,kind,p)]}
def aeK(m:xP)(kind:Int)(d:jR):jR:=if m∈d.marks then akO {d with marks:=d.marks.erase m} kind m.1 else d
def px(h:Hub)(m:xP)(kind:Int):Hub:=h.map fun p=>(p.1,aeK m kind p.2)
def aad(h:Hub)(e:Int×Str):Hub:=match qB e.2 with
 | none=>h
 | some up=>if e.1<1\/3<e.1 then h else
  let h1:=px h (e.2,1) e.1
  let h2:=if e.1≠3 then px h1 (up,2) 4 else h1
  if e.1=2 then px h2 (e.2,2) 4 else h2
def ye(h:Hub)(l:List (Int×Str)):Hub:=l.foldl aad h
def ab5(h:Hub)(k:Str×Int):List (Int×Int×Str):=match qI h k with
 | some d=>d.events
 | none=>[]
def aqS(d:jR)(n:Int):jR:={d with acked:=max d.acked n,events:=d.events.filter fun e=> !decide (e.1<=n)}
def afd(h:Hub)(k:Str×Int)(n:Int):Hub×Int:=match qI h k with
 | none=>(h,if n<0\/0<n then 161 else 0)
 | some d=>if n<0\/d.last<n then(h,161)else(wD h k (aqS d n),0)
structure Sto where
 epoch:Int
 members:List Int
 tree:St
 tbl:Tbl
 hub:Hub
structure vY where
 kind:Int
 home:Str
 session:Int
 req:Int
 nonce:Int
 lease:Int
 beats:Int
 ack:Int
 ops:List MOp
 path:Str
 watch:Bool
 epoch:Int
 members:List Int
structure Rep where
 code:Int
 session:Int
 results:List (Str×Int)
 bad:Int
 data:Str
 ver:Int
 ctr:Int
 own:Int
 kids:Int
 names:List Str
 events:List (Int×Int×Str)
 epoch:Int
def Rep.zero:Rep:=⟨0,0,[],0,[],0,0,0,0,[],[],0⟩
def zh(e:Int):Rep:={Rep.zero with code:=e}
def aj7:List Int->Option Int->Bool
 | [],_=>true
 | m::l,b=>decide (0<=m) && decide (m<=31) && (match b with | none=>true | some x=>decide (x<m)) && aj7 l (some m)
def aae(l:List Int):Bool:=aj7 l none && decide (1<=l.length) && decide (l.length<=7)
def Sto.new(members:List Int):Sto:=⟨0,members,St.new,[],[]⟩
def agh(s:Sto)(k:Str×Int):Sto:=
 {s with hub:=ye (jN s.hub k) ((pd s.tree k.1 [k.2]).2.map fun p=>(2,p)),tree:=(pd s.tree k.1 [k.2]).1}
def abx(s:Sto)(c:vY):Sto×Rep:=
 if(vm s.tbl c.home c.nonce c.lease).2.2≠0 then(s,zh (vm s.tbl c.home c.nonce c.lease).2.2)
 else({s with tbl:=(vm s.tbl c.home c.nonce c.lease).1,tree:=if we c.home=true/\(s.tree.lookup (47::c.home)).isNone=true then(wt s.tree (47::c.home) [] 0 false).1 else s.tree},
  {Rep.zero with session:=(vm s.tbl c.home c.nonce c.lease).2.1})
def acS(s:Sto)(c:vY):Sto×Rep:=
 if aae c.members=false then(s,zh 190)
 else if c.epoch≠s.epoch then(s,zh 191)
 else({s with epoch:=s.epoch+1,members:=c.members},{Rep.zero with epoch:=s.epoch+1})
def atE(c:vY):Int:=if parts c.path=none then 20 else if(qK c.path).getD []≠c.home then 82 else 0
def vY.key(c:vY):Str×Int:=(c.home,c.session)
def adl(s:Sto)(c:vY):Sto×Rep:=
 if atE c≠0 then(s,zh (atE c))
 else if c.watch=true/\(pE s.hub c.key (c.path,1)).2≠0 then(s,zh (pE s.hub c.key (c.path,1)).2)
 else({s with hub:=if c.watch=true then(pE s.hub c.key (c.path,1)).1 else s.hub},
  match s.tree.lookup c.path with
  | none=>zh 70
  | some n=>{Rep.zero with data:=n.data,ver:=n.ver,ctr:=n.ctr,own:=n.own,kids:=n.kids})
def al4(st:St)(p:Str):List Str:=jx ((srt st).map (·.1)) p
def aaQ(s:Sto)(c:vY):Sto×Rep:=
 if atE c≠0 then(s,zh (atE c))
 else match s.tree.lookup c.path with
  | none=>(s,zh 70)
  | some _=>
   if c.watch=true/\(pE s.hub c.key (c.path,2)).2≠0 then(s,zh (pE s.hub c.key (c.path,2)).2)
   else({s with hub:=if c.watch=true then(pE s.hub c.key (c.path,2)).1 else s.hub},{Rep.zero with names:=al4 s.tree c.path})
def afe(s:Sto)(c:vY):Sto×Rep:=
 let d:=qS s.tree c.home c.session 64 8192 c.ops
 ({s with tree:=d.st,hub:=ye s.hub d.eff},{Rep.zero with code:=d.err,results:=d.res,bad:=d.bad})
def doS(s:Sto)(c:vY):Sto×Rep:=
 if c.kind=2 then({s with tbl:=(ab4 s.tbl c.key).1},Rep.zero)
 else if c.kind=5 then afe s c
 else if c.kind=6 then adl s c
 else if c.kind=7 then aaQ s c
 else(s,Rep.zero)
def adm(x:Rep):Prop:=x.results.length<=16/\x.names.length<=4096/\x.events.length<=32/\ -1<=x.bad/\x.bad<4611686018427387903/\qQ x.code=true/\qQ x.session=true/\qQ x.ver=true/\qQ x.ctr=true/\qQ x.own=true/\qQ x.kids=true/\qQ x.epoch=true/\
 (∀y∈x.results,qQ y.2=true)/\∀ y∈x.events,qQ y.1=true/\qQ y.2.1=true
instance (x:Rep):Decidable (adm x):=by unfold adm;infer_instance
def aib(l:List (Str×Int)):Str:=l.flatMap fun y=>yZ y.1++wg y.2.toNat
def aic(l:List (Int×Int×Str)):Str:=l.flatMap fun y=>wg y.1.toNat++(wg y.2.1.toNat++yZ y.2.2)
def aid(x:Rep):Str:=wg x.code.toNat++(wg x.session.toNat++(wg x.results.length++(aib x.results++(wg (x.bad+1).toNat++(yZ x.data++(wg x.ver.toNat++(wg x.ctr.toNat++(wg x.own.toNat++(wg x.kids.toNat++(wg x.names.length++(x.names.flatMap yZ++(wg x.events.length++(aic x.events++wg x.epoch.toNat)))))))))))))
def aar(x:Rep):Option Str:=if adm x then some (aid x)else none
def aie:Nat->Rd->List (Str×Int)×Rd
 | 0,r=>([],r)
 | n+1,r=>(((wo r).1,((qR (wo r).2).1:Int))::(aie n (qR (wo r).2).2).1,(aie n (qR (wo r).2).2).2)
def ad8:Nat->Rd->List Str×Rd
 | 0,r=>([],r)
 | n+1,r=>((wo r).1::(ad8 n (wo r).2).1,(ad8 n (wo r).2).2)
def aif:Nat->Rd->List (Int×Int×Str)×Rd
 | 0,r=>([],r)
 | n+1,r=>let a:=qR r;let b:=qR a.2;let c:=wo b.2
  (((a.1:Int),(b.1:Int),c.1)::(aif n c.2).1,(aif n c.2).2)
structure RR where
 x:Rep
 nr:Nat
 nn:Nat
 ne:Nat
 r:Rd
def ve(b:Str):RR:=
 let a1:=qR ⟨b,0⟩
 let a2:=qR a1.2
 let a3:=qR a2.2
 let a4:=aie (min a3.1 16) a3.2
 let a5:=qR a4.2
 let a6:=wo a5.2
 let a7:=qR a6.2
 let a8:=qR a7.2
 let a9:=qR a8.2
 let b0:=qR a9.2
 let b1:=qR b0.2
 let b2:=ad8 (min b1.1 4096) b1.2
 let b3:=qR b2.2
 let b4:=aif (min b3.1 32) b3.2
 let b5:=qR b4.2
 ⟨⟨a1.1,a2.1,a4.1,(a5.1:Int) - 1,a6.1,a7.1,a8.1,a9.1,b0.1,b2.1,b4.1,b5.1⟩,a3.1,b1.1,b3.1,b5.2⟩
def aff(b:Str):Option Rep:=
 if(ve b).r.err≠0\/0<(ve b).r.rest.length\/16<(ve b).nr\/4096<(ve b).nn\/32<(ve b).ne then none else some (ve b).x
def aaw(s:Sto)(c:vY):Sto×Rep:=
 if(kk s.tbl c.key c.req).2.2≠0 then(s,zh (kk s.tbl c.key c.req).2.2)
 else if(kk s.tbl c.key c.req).2.1=true then(s,{(aff (kk s.tbl c.key c.req).1).getD Rep.zero with events:=ab5 s.hub c.key})
 else
  let s1:Sto:={s with hub:=(afd s.hub c.key c.ack).1}
  if c.kind=3 then(agh {s1 with tbl:=(aaq s1.tbl c.key).1} c.key,Rep.zero)
  else
   let d:=doS s1 c
   ({d.1 with tbl:=(adj d.1.tbl c.key c.req ((aar d.2).getD [])).1},{d.2 with events:=ab5 d.1.hub c.key})
def vH(s:Sto)(c:vY):Sto×Rep:=
 if c.kind=1 then abx s c
 else if c.kind=4 then
  if(kw s.tbl c.key c.beats).2=true then(agh {s with tbl:=(kw s.tbl c.key c.beats).1} c.key,Rep.zero)else(s,zh 150)
 else if c.kind=8 then acS s c
 else if 2<=c.kind/\c.kind<=7 then aaw s c
 else(s,zh 170)