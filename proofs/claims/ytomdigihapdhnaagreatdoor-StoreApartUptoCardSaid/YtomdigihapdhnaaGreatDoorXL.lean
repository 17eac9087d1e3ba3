import Derived.RangeFuncBox
import Derived.Shelf.Abstract
import Derived.WalkKit
import Derived.OwnWalkIn
import Derived.TacticsInMore
import Derived.LoopNIn
import Derived.LoopIn
import Derived.Test.YtomdigihapdhnaaGreatDoorProg
import Derived.Test.YtomdigihapdhnaaGreatDoorXK
set_option linter.all false
set_option maxRecDepth 99999
set_option maxHeartbeats 0
open Go.IntKind(i64)
open Go.Proofs.Tryz
namespace Go.Proofs.YtomdigihapdhnaaGreatDoor
namespace SL
open Go
variable{body c:Code}{fr:Fr}{fn:Func}{D M rid:Nat}{Q:ZC->AH->Prop}{w w':ZB}
section
variable{n:Nat}{P:Program}{B:ZB}{ro φ I:AH}{N:Nat}
def Own.keepBlocks(h:Own B ro φ I w)(ho:w'.os=w.os)(ht:w'.tape=w.tape)(hp:w'.output=w.output)
  (hs:∀ b o,I b=some o->w'.heap[b]?=w.heap[b]?) (hf:∀ b o,φ b=some o->w'.heap[b]?=w.heap[b]?) (hr:∀ b o,ro b=some o->w'.heap[b]?=w.heap[b]?):Own B ro φ I w':=
 ⟨ho.trans h.os,ht.trans h.tape,hp.trans h.output,fun b o e=>by obtain⟨h1,h2,h3⟩:=h.own b o e;exact⟨(hs b o e).trans h1,h2,h3⟩,
  fun b o e=>(hf b o e).trans (h.fr b o e),fun b o e=>(hr b o e).trans (h.ro b o e)⟩
def afn(w:ZB)(I:AH):AH:=fun b=>match I b with
 | some _=>none
 | none=>w.heap[b]?
def Own.all(h:Own B ro φ I w):Own B ro (afn w I) I w:=by
 refine⟨h.os,h.tape,h.output,fun b o e=>?_,fun b o e=>?_,h.ro⟩
 .obtain⟨h1,_,h3⟩:=h.own b o e
  exact⟨h1,by simp[afn,e],h3⟩
 .unfold afn at e
  split at e
  .cases e
  .exact e
def Own.unall{I':AH}(h:Own B ro φ I w)(k:Own B ro (afn w I) I' w'):Own B ro φ I' w':=by
 have hb:∀ b o,φ b=some o->afn w I b=some o:=fun b o e=>by
  unfold afn
  cases hs:I b with
  | some x=>have:=(h.own b x hs).2.1;rw[e]at this;cases this
  | none=>exact h.fr b o e
 refine⟨k.os,k.tape,k.output,fun b o e=>?_,fun b o e=>k.fr b o (hb b o e),k.ro⟩
 obtain⟨h1,h2,h3⟩:=k.own b o e
 refine⟨h1,?_,h3⟩
 cases hp:φ b with
 | none=>rfl
 | some x=>rw[hb b x hp]at h2;cases h2
structure axb(I0:AH)(ks:List Nat)(J:AH->Prop)(I:AH)(e:Exit)(I':AH):Prop where
 norm:e= .normal
 old:∀ b o,I b=some o->∃ o',I' b=some o'
 go:∃ I'',HLe I'' I'/\J I''
def aoZ{α:Type}{g:Operand}{ps:Array Tmp}{d:Tmp}{src ty:Nat}{pos:String}{Q:Exit->Act->ZB->Prop}{a:Act}
  (hn:3<=n) {gf Bs:Nat} (eg:∀ args w,(callFunc gf args).run P w= .ok (.enter gf args) w)
  {encs:α->Array Value} {S Sp:List α->Prop}  (ks:List Nat)
  (hg:qm fr g=some (.func (.func gf) #[] #[.pointer (some ⟨Bs,0,none⟩)]))
  (hseq:SeqStopsK Fence.wide (n - 1) P gf #[.pointer (some ⟨Bs,0,none⟩)] encs (fun W W'=> ∀k∈ks,W'.heap[k]?=W.heap[k]?) S Sp M w)
  (hps:∀ x,(encs x).size=ps.size) (ho:Own B ro φ I w) (hf:xz N fr a)
  (J:List α->AH->Prop) (h0:J [] I)
  (hcell:∀ pre I',J pre I'->∀ b o,I' b=some o->Obj.isCells o=false->∃ o',I b=some o')
  (hkeep:∀ pre I',J pre I'->∀ k∈ks,∃o,I k=some o/\I' k=some o)
  (fr1:α->Fr)
  (hfr:∀ x,uQ N [] (fr1 x) (Act.mk (((ps.zip (encs x)).foldl (fun t (p,v)=>t.setIfInBounds p v) a.tmps).setIfInBounds d (((ps.zip (encs x)).foldl (fun t (p,v)=>t.setIfInBounds p v) a.tmps).getD src undef)) []))
  (hbody:∀ (l:Nat) (pre:List α) (x:α) (I1:AH),J pre I1->pre.length<M->
   AWF (Fence.wide.inRound l) (n - 1 - 1) [] P B ro N body (fun e _ I2=>axb I ks (J (pre++[x])) I1 e I2) (fr1 x) I1)
  (hdone:∀ (D:Nat) (xs:List α) (W:ZB) (I':AH),φ D=none->ro D=none->S xs->J xs I'->Own B ro (upd φ D (.deferred (some []))) I' W->
   Q .normal {a with defers:={target:= .collected D,args:= #[]}::a.defers} W):
  (Code.rangeFunc g ps (.region rid #[{dst:=some d,op:= .assign (.tmp src),type:=ty,pos:=pos,after:= #[],guard:=none}] false) body).wpIn Fence.wide n P Q a w:=by
 refine wpIn_rangeFunc_ownG (S:=S) (Sp:=Sp) (N:=M) (w0:=w) (encs:=encs) rfl z7 (hf.agrees _ _ hg) trivial eg hseq
  (fun h1 h2 k hk=>(h2 k hk).trans (h1 k hk)) ?hKb (Go.RowKit.Below.refl _ _) hps
  (fun pre W=> ∃I',Own B ro φ I' W/\J pre I') (fun _ _ _=>False) ?hI (fun _ _ _ _ _ h=>h.elim) ⟨I,ho,h0⟩
  (fun x=>Act.mk (((ps.zip (encs x)).foldl (fun t (p,v)=>t.setIfInBounds p v) a.tmps).setIfInBounds d (((ps.zip (encs x)).foldl (fun t (p,v)=>t.setIfInBounds p v) a.tmps).getD src undef)) []) ?hassign ?hbody ?hdone ?hstop
 case hKb=>
  intro W l o o' hl hWl _ _ k hk
  obtain⟨x,hx,_⟩:=hkeep [] I h0 k hk
  have:=ho.lt hx
  exact World.putObj_heap_other z7
 case hI=>
  rintro pre W W' row ⟨I',hO,hJ⟩ hg hr
  have old:∀ b o,W.heap[b]?=some o->(o.isCells=false->b<w.heap.size)->W'.heap[b]?=W.heap[b]?:=fun b o hb hc=>by
   refine hg.block b (wV hb) fun e=>?_
   obtain⟨h1,o2,h2,h3⟩:=hr b e.symm
   rw[hb]at h2;cases h2
   have:=hc h3;omega
  refine⟨I',hO.keepBlocks hg.os hg.tape hg.output (fun b o e=>?_) (fun b o e=>?_) (fun b o e=>?_),hJ⟩
  .refine old b o (hO.own b o e).1 fun hc=>?_
   obtain⟨o',h'⟩:=hcell pre I' hJ b o e hc
   exact ho.lt h'
  .exact old b o (hO.fr b o e) fun _=>wV (ho.fr b o e)
  .exact old b o (hO.ro b o e) fun _=>wV (ho.ro b o e)
 case hassign=>
  intro l x W K hK
  refine wpIn_region ?_
  show wpOpsIn _ _ _ _ _ (List.range 1) _ _
  simp only[List.range_succ,List.range_zero,nF,wpOpsIn]
  simp only[List.getElem?_toArray,List.getElem?_cons_zero,Region.wanted]
  refine⟨fun _ _=>trivial,?_⟩
  rw[Oper.semAt_eq _ _ _ (fun c e=>by cases e)]
  exact hK
 case hbody=>
  rintro l pre x W ⟨I1,hO,hJ⟩ hlen
  refine wpIn_mono (hbody l pre x I1 hJ hlen (afn W I1) W _ hO.all (hfr x)) ?_
  rintro e a' W' ⟨fr',I2,⟨hn,hold,I3,hle,hJ3⟩,hO2,_⟩
  subst hn
  have hO2':=hO.unall hO2
  have blk:∀ (k:Nat) (o:Obj),W.heap[k]?=some o->I1 k=none->W'.heap[k]?=some o:=fun k o hk hs=>hO2.fr k o (by unfold afn;rw[hs];exact hk)
  refine⟨⟨?_,?_⟩,?_,I3,hO2'.drop hle,hJ3⟩
  .rcases nh W.heap.size with h | h
   .omega
   .have hl:W.heap.size - 1<W.heap.size:=by omega
    have hx:W.heap[W.heap.size - 1]?=some W.heap[W.heap.size - 1]:=Array.getElem?_eq_getElem hl
    have:∃ o,W'.heap[W.heap.size - 1]?=some o:=by
     cases hs:I1 (W.heap.size - 1)with
     | none=>exact⟨_,blk _ _ hx hs⟩
     | some o=>obtain⟨o',h'⟩:=hold _ o hs;exact⟨o',(hO2.own _ _ h').1⟩
    obtain⟨o,h'⟩:=this
    have:=wV h';omega
  .intro k o hk ho' hc
   refine blk k o ho' ?_
   cases hs:I1 k with
   | none=>rfl
   | some o2=>
    have:=(hO.own k o2 hs).1
    rw[ho']at this;cases this
    obtain⟨o3,h3⟩:=hcell pre I1 hJ k o hs hc
    have:=ho.lt h3;omega
  .intro k hk
   obtain⟨o,h1,h2⟩:=hkeep _ _ hJ k hk
   obtain⟨o',h3,h4⟩:=hkeep _ _ hJ3 k hk
   rw[h1]at h3;cases h3
   rw[(hO.own k o h2).1,(hO2'.own k o (hle k o h4)).1]
 case hdone=>
  rintro D xs W hD hS ⟨I',hO,hJ⟩ hW
  have nD:I' D=none:=by
   cases hs:I' D with
   | none=>rfl
   | some o=>
    have:=(hO.own D o hs).1
    rw[hW]at this;cases this
    obtain⟨o',h'⟩:=hcell xs I' hJ D _ hs rfl
    have:=ho.lt h';omega
  have fD:φ D=none:=by
   cases hs:φ D with
   | none=>rfl
   | some o=>have:=wV (ho.fr D o hs);omega
  have rD:ro D=none:=by
   cases hs:ro D with
   | none=>rfl
   | some o=>have:=wV (ho.ro D o hs);omega
  refine hdone D xs W I' fD rD hS hJ ⟨hO.os,hO.tape,hO.output,fun b o e=>?_,fun b o e=>?_,hO.ro⟩
  .obtain⟨h1,h2,h3⟩:=hO.own b o e
   refine⟨h1,?_,h3⟩
   unfold upd
   rw[ma (fun h=>by subst h;rw[nD]at e;cases e)]
   exact h2
  .unfold upd at e
   split at e
   .rename_i h;subst h;cases e;exact hW
   .exact hO.fr b o e
 case hstop=>
  rintro D c pre W _ _ h _
  exact h.elim
def atS{a:Act}(hf:uQ N [{target:= .collected D,args:= #[]}] fr a)(fD:φ D=none)(rD:ro D=none)
  (ho:Own B ro (upd φ D (.deferred (some []))) I w)
  (h:∃ v,(∀tmps:Array Value,(∀i u,look fr i=some u->tmps[i]?=some u)->qh P ro (results fn tmps) I=some v)/\Q v I):
  bodyPostM Fence.wide n P fn (fun e w'=> ∃v I',e= .returned v/\Q v I'/\Own B ro φ I' w') .ret a w:=by
 obtain⟨v,hr,hq⟩:=h
 have hD:w.heap[D]?=some (.deferred (some [])):=ho.fr D _ (by simp[upd])
 have hO:Own B ro φ I (w.putObj D (.deferred none)):=by
  refine⟨ho.os,ho.tape,ho.output,fun b o e=>?_,fun b o e=>?_,fun b o e=>?_⟩
  .obtain⟨h1,h2,h3⟩:=ho.own b o e
   have hne:b≠D:=fun h=>by subst h;simp[upd]at h2
   exact⟨(World.putObj_heap_other hne).trans h1,by unfold upd at h2;rw[ma hne]at h2;exact h2,h3⟩
  .have hne:b≠D:=fun h=>by subst h;rw[fD]at e;cases e
   exact(World.putObj_heap_other hne).trans (ho.fr b o (by unfold upd;rw[ma hne];exact e))
  .have hne:b≠D:=fun h=>by subst h;rw[rD]at e;cases e
   exact(World.putObj_heap_other hne).trans (ho.ro b o e)
 show LeavesInM _ _ _ _ _ _ a.defers _ _
 rw[hf.defers]
 refine⟨y0,.inl ⟨D,_,rfl,run_takeDeferred hD,?_⟩⟩
 exact⟨v,ahf _ (hr _ hf.has) hO,v,I,rfl,hq,hO⟩
def qc.of_marks{f:FuncId}{args:List Value}(hf:P.funcs[f]?=some fn)(hb:fn.body=some c)
  (hn:args.length<=fn.ntmps) (h:∀ φ w a,Own B ro φ I w->xz fn.ntmps (afe args 0) a->c.wpIn Fence.wide n P (bodyPostM Fence.wide n P fn (fun e w'=> ∃v I',e= .returned v/\Q v I'/\Own B ro φ I' w')) a w):
  qc P B ro f args.toArray I Q:=by
 intro φ w ho
 refine(callsIn_wide (n:=n)).1 ?_
 refine callsIn_of_wp_marks hf hb trivial ?_ rfl
 refine h φ w _ ho ⟨j2,rfl,?_⟩
 intro i v hi
 obtain⟨_,h2⟩:=akO args 0 i v hi
 simp only[Nat.sub_zero]at h2
 have hlt:i<args.length:=by
  rcases mM i args.length with h' | h'
  .exact h'
  .rw[mG h']at h2;cases h2
 simp[Array.getElem?_append,hlt]
 simpa [md hlt]using h2
end
end SL
namespace Back
open Go Go.RowKit Go.Shelf
variable{α:Type}{ks:List Nat}
attribute [local go_sem] Oper.semAt_some
def upto{α:Type}(f:Nat->α)(k:Nat):List α:=(List.range k).map f
def upto_succ(f:Nat->α)(k:Nat):upto f (k+1)=upto f k++[f k]:=by simp[upto,List.range_succ]
def upto_length(f:Nat->α)(k:Nat):(upto f k).length=k:=by simp[upto]
def bk(zs:List ByteArray)(k:Nat):Int×ZA:=((zs.length:Int) - 1 - k,(zs[zs.length - 1 - k]?).getD ByteArray.empty)
def Kp(ks:List Nat)(W W':ZB):Prop:= ∀k∈ks,W'.heap[k]?=W.heap[k]?
def Kp.refl(ks:List Nat)(W:ZB):Kp ks W W:=fun _ _=>rfl
def Kp.trans{A B C:ZB}(h:Kp ks A B)(h':Kp ks B C):Kp ks A C:=fun k hk=>(h' k hk).trans (h k hk)
def Kp.cell{A B:ZB}(h:Kp ks A B){p:Addr}(hp:p.block∈ks):B.cell? p=A.cell? p:=World.cell?_of_block (h _ hp)
def back1(n:Nat)(hn:1<=n)(l Bs b off cap:Nat)(zs:List ByteArray)(hreach:zs.length*8<=140737488351232)(J Jx:List (Int×ZA)->ZB->Prop)
  (hY:∀ pre x W,J pre W->pre.length<zs.length->YieldAt Fence.wide (n - 1) prog l #[.int .i64 x.1,.string x.2] W fun e W'=>
   (e= .returned (.bool true)/\J (pre++[x]) W'/\Kp [Bs,b] W W')\/(e= .returned (.bool false)/\Jx (pre++[x]) W'))
  (W:ZB) (hBs:W.cell? ⟨Bs,0,none⟩=some (.slice (some ⟨b,off,none⟩) zs.length cap)) (hc:∀ j,j<zs.length->W.cell? ⟨b,off+j,none⟩=some (.string ((zs[j]?).getD ByteArray.empty))) (h0:J [] W):
  CallsIn Fence.wide n prog 230 #[.func (.yield l) #[] #[],.pointer (some ⟨Bs,0,none⟩)] W fun e W'=>(∃v,e= .returned v)/\
   ((∃ys,ys=upto (bk zs) zs.length/\J ys W')\/(∃pre,(∃k,k<=zs.length/\pre=upto (bk zs) k)/\Jx pre W')):=by
 refine callsIn_of_wp func230 rfl trivial ?_ rfl
 simp only[ntmps230,List.size_toArray,mz,nH,Nat.reduceAdd,Nat.reduceSub,Array.replicate_succ,Array.replicate_zero,List.push_toArray,List.append_toArray,nF,ng]
 gi_wp2
 gi_loopw [3] (fun i wr=> ∃k:Nat,k<=zs.length/\i= .int .i64 ((zs.length:Int) - 1 - k)/\J (upto (bk zs) k) wr/\Kp [Bs,b] W wr)
  (fun i _=>(intOf i+1).toNat)
 case atStart=>exact⟨0,Nat.zero_le _,y0,h0,Kp.refl _ _⟩
 case round=>
  obtain⟨k,hk,rfl,hJs,hnx⟩:=hrel
  have hB':wr.cell? ⟨Bs,0,none⟩=some (.slice (some ⟨b,off,none⟩) zs.length cap):=(hnx.cell (p:=⟨Bs,0,none⟩) y0).trans hBs
  by_cases hlt:k<zs.length
  .have hcx:wr.cell? ⟨b,off+(zs.length - 1 - k),none⟩=some (.string ((zs[zs.length - 1 - k]?).getD ByteArray.empty)):=(hnx.cell (p:=⟨b,off+(zs.length - 1 - k),none⟩) y0).trans (hc _ z7)
   obtain⟨fn,tmps,assign,body,hy,hR⟩:=hY _ (bk zs k) wr hJs (by rw[upto_length];exact hlt)
   dsimp only[bk]at hy
   have e1:((zs.length:Int) - 1 - k).toNat=zs.length - 1 - k:=by omega
   gi_wp2
   refine hR.mono ?_
   rintro e W3 (⟨rfl,hJ3,hk3⟩ | ⟨rfl,hJx3⟩)
   .gi_wp2
    go_roundw
    case rel=>exact⟨k+1,z7,j2,by rw[upto_succ];exact hJ3,hnx.trans hk3⟩
    case measure=>simp[intOf];omega
   .gi_wp2
    refine bodyPost_ret (results_none rfl _ _ _) rfl ?_
    exact⟨⟨_,rfl⟩,.inr ⟨_,⟨k+1,z7,(upto_succ _ _).symm⟩,hJx3⟩⟩
  .obtain rfl:k=zs.length:=by omega
   gi_wp2
   go_end0
   exact⟨⟨_,rfl⟩,.inl ⟨_,rfl,hJs⟩⟩
def back1_nil(n l Bs:Nat)(J:List (Int×ZA)->ZB->Prop)(W:ZB)(hBs:W.cell? ⟨Bs,0,none⟩=some (.slice none 0 0))(h0:J [] W):
  CallsIn Fence.wide n prog 230 #[.func (.yield l) #[] #[],.pointer (some ⟨Bs,0,none⟩)] W fun e W'=>(∃v,e= .returned v)/\J [] W':=by
 refine callsIn_of_wp func230 rfl trivial ?_ rfl
 simp only[ntmps230,List.size_toArray,mz,nH,Nat.reduceAdd,Nat.reduceSub,Array.replicate_succ,Array.replicate_zero,List.push_toArray,List.append_toArray,nF,ng]
 gi_wp2
 gi_loopw [3] (fun i wr=>i= .int .i64 (-1)/\J [] wr) (fun _ _=>0)
 case atStart=>exact⟨rfl,h0⟩
 case round=>
  obtain⟨rfl,hJs⟩:=hrel
  gi_wp2
  go_end0
  exact⟨⟨_,rfl⟩,hJs⟩
def stops(n:Nat)(hn:1<=n)(Bs:Nat)(s:SL.Sl)(zs:List ByteArray)(ks:List Nat)(hreach:zs.length*8<=140737488351232)(w:ZB)
  (hBs:w.cell? ⟨Bs,0,none⟩=some s.v) (hBl:Bs<w.heap.size) (hkB:Bs∈ks)
  (hI:(s=⟨none,0,0⟩/\zs=[])\/∃ b cap,s=⟨some ⟨b,0,none⟩,zs.length,cap⟩/\b<w.heap.size/\b∈ks/\∀ j,j<zs.length->w.cell? ⟨b,j,none⟩=some (.string ((zs[j]?).getD ByteArray.empty))):
  SeqStopsK Fence.wide n prog 230 #[.pointer (some ⟨Bs,0,none⟩)] (fun x:Int×ByteArray=> #[Value.int .i64 x.1,.string x.2]) (Kp ks) (fun ys=>ys=upto (bk zs) zs.length) (fun _=>True) zs.length w:=by
 intro l J Jx W hW _ _ hY h0
 have hc':=(hW.cell (p:=⟨Bs,0,none⟩) hBl).trans hBs
 rcases hI with⟨rfl,rfl⟩ | ⟨b,cap,rfl,hb,hkb,hcs⟩
 .exact(back1_nil n l Bs J W hc' h0).mono fun e W' ⟨he,hj⟩=>⟨he,.inl ⟨_,rfl,hj⟩⟩
 .refine(back1 n hn l Bs b 0 cap zs hreach J Jx (fun pre x W hJ hl=>?_) W hc' (fun j hj=>?_) h0).mono ?_
  .obtain⟨fn,tmps,assign,body,hy,hR⟩:=hY pre x W hJ hl
   refine⟨fn,tmps,assign,body,hy,hR.mono ?_⟩
   rintro e W' (⟨h1,h2,h3⟩ | h)
   .refine .inl ⟨h1,h2,fun k hk=>h3 k ?_⟩
    simp at hk
    rcases hk with rfl | rfl<;>assumption
   .exact .inr h
  .rw[ml]
   exact(hW.cell (p:=⟨b,j,none⟩) hb).trans (hcs j hj)
  .rintro e W' ⟨he,⟨ys,h1,h2⟩ | ⟨pre,_,h2⟩⟩
   .exact⟨he,.inl ⟨ys,h1,h2⟩⟩
   .exact⟨he,.inr ⟨pre,trivial,h2⟩⟩
end Back
namespace G
open Go SL
variable{B:ZB}{ro I:AH}
variable{fr:Fr}{N n:Nat}{P:Program}
def AWF.iff{F:Fence}{ds:List Deferred}{B:ZB}{ro:AH}{I:AH}{Q:Exit->Fr->AH->Prop}{c:Operand}{x y:Code}{b:Bool}{p:Prop}[Decidable p]{X Y:Prop}(hc:qm fr c=some (.bool b))(hi:b=true↔p)(h:if p then X else Y)
  (ht:X->AWF F n ds P B ro N x Q fr I) (hn:Y->AWF F n ds P B ro N y Q fr I):AWF F n ds P B ro N (.cond c x y) Q fr I:=by
 refine AWF.cond hc (fun e=>ht ?_) (fun e=>hn ?_)
 .rw[mc (hi.1 e)]at h;exact h
 .rw[ma (fun q=>by rw[hi.2 q]at e;cases e)]at h;exact h
def alj{B:ZB}{ro φ I:AH}{x y:Code}{R:Exit->Act->ZB->Prop}{w:ZB}{a:Act}
  (h:AW P B ro N x (adi (fun fr I=> ∀w a,SL.Own B ro φ I w->xz N fr a->y.wpIn Fence.wide n P R a w) (fun _ _ _=>False)) fr I) (ho:SL.Own B ro φ I w) (hf:xz N fr a):(Code.seq x y).wpIn Fence.wide n P R a w:=by
 refine wpIn_seq (wpIn_wide.2 (wp_mono (h φ w a ho hf) ?_))
 rintro e a' w' ⟨fr',I',hq,ho',hf'⟩
 cases e with
 | normal=>exact hq w' a' ho' hf'
 | _=>exact hq.elim
def amY(ro:AH)(a0:ZA)(a3:Addr)(Q:AH->Prop)(x31_6:Bool)(I:AH):Prop:=
 if x31_6=true then
 ∃(x32_7:Sl),qa ro I a3=some (Sl.v x32_7)/\
 nw ro I (.cells #[.int .i64 2,.string a0] 336) fun x35_8 I=>
 awp prog ro (Builtin.append_ #[258,258] 258 #[Sl.v x32_7,Sl.v (⟨some ⟨x35_8,0,none⟩,1,1⟩:Sl)]) (fun v I=> ∃(x36_9:Sl),v=Sl.v x36_9/\
  stN a3 (fun I=>Q I) [Sl.v x36_9] 0 I) I
 else
 Q I
def rnd(B:ZB)(ro:AH)(a0:ZA)(a1 a2 a3:Addr)(I:AH)(Q:AH->Prop):=
 pG B ro a0 I fun x20_2 x20_3 I=>
 ∃(x24_4:ZA),qa ro I a2=some (.string x24_4)/\
 if x20_2=x24_4 then
 ∃(x27_10:ZO),qa ro I a1=some (.pointer x27_10)/\
 jT B ro x27_10 a0 (-1) I fun x29_11 I=>
 amY ro a0 a3 Q (decide (x29_11=0)) I
 else
 amY ro a0 a3 Q false I
def aso(B:ZB)(ro:AH)(b3 b4 b7 bb:Nat)(s:Sl)(I:AH)(Q:Sl->AH->Prop):=
 ∃(zs:List ByteArray) (J:List (Int×ZA)->AH->Prop),
  ((s=⟨none,0,0⟩/\zs=[])\/∃ b cap o,s=⟨some ⟨b,0,none⟩,zs.length,cap⟩/\I b=some o/\(∀pre I',J pre I'->I' b=some o)/\∀ j,j<zs.length->zF ⟨b,j,none⟩ (some o)=some (.string ((zs[j]?).getD ByteArray.empty)))/\
  zs.length*8<=140737488351232/\J [] I/\
  (∀pre I',J pre I'->∀ b o,I' b=some o->Obj.isCells o=false->∃ o',I b=some o')/\
  (∃o,I bb=some o/\zF ⟨bb,0,none⟩ (some o)=some (Sl.v s)/\∀ pre I',J pre I'->I' bb=some o)/\
  (∀pre x I1,J pre I1->pre.length<zs.length->rnd B ro x.2 ⟨b3,0,none⟩ ⟨b4,0,none⟩ ⟨b7,0,none⟩ I1 fun I2=>(∀b o,I1 b=some o->∃ o',I2 b=some o')/\∃ I3,HLe I3 I2/\J (pre++[x]) I3)/\
  (∀I',J (Back.upto (Back.bk zs) zs.length) I'->∃ so,qa ro I' ⟨b7,0,none⟩=some (Sl.v so)/\Q so I')
def ao0(B:ZB)(ro:AH)(a0:ZO)(a1:ZA)(a2:Sl)(I:AH)(Q:Sl->AH->Prop):=
 nw ro I (.cells #[.pointer a0] 61) fun x3_1 I=>
 nw ro I (.cells #[.string a1] 9) fun x4_2 I=>
 nw ro I (.cells #[Sl.v (⟨none,0,0⟩:Sl)] 258) fun x7_3 I=>
 ∃(x12_4:ZO),qa ro I ⟨x3_1,0,none⟩=some (.pointer x12_4)/\
 ab6 B ro x12_4 a2 I fun x14_5 I=>
 nw ro I (.cells #[Sl.v x14_5] 27) fun x1_1 I=>
 aso B ro x3_1 x4_2 x7_3 x1_1 x14_5 I Q
def amZ{a0:ZO}{a1:ZA}{a2:Sl}{Q:Sl->AH->Prop}(h:Sep ro I->ao0 B ro a0 a1 a2 I Q):abj B ro a0 a1 a2 I Q:=by
 refine qc.of_sep fun hsep=>?_
 replace h:=h hsep
 refine qc.of_marks (n:=5) (args:=[.pointer a0,.string a1,Sl.v a2]) func126 rfl (by rw[ntmps126];simp) ?_
 rw[ntmps126]
 unfold ao0 at h
 intro φ w a ho hf
 refine alj ?_ ho hf
 clear ho hf
 refine AW.reg ?_;refine Ls rfl rfl (akd (wt rfl rfl) fun x3_1 g1 g2=>?_)
 replace h:=h x3_1 g1 g2
 refine Ls rfl rfl (akd (wt rfl rfl) fun x4_2 g1 g2=>?_)
 replace h:=h x4_2 g1 g2
 refine Lp (aij rfl rfl) rfl rfl ?_
 refine aea ?_;refine acy ?_
 intro w a ho hf
 refine alj ?_ ho hf
 clear ho hf
 refine AW.reg ?_;refine Ls rfl rfl (akd (qT rfl aiq) fun x7_3 g1 g2=>?_)
 replace h:=h x7_3 g1 g2
 refine aea ?_;refine acy ?_
 intro w a ho hf
 refine wpIn_seq ?_
 refine alj ?_ ho hf
 clear ho hf
 refine AW.reg ?_;obtain⟨x12_4,hc,h⟩:=h
 refine Ls rfl rfl (vc rfl nY rfl rfl hc ?_)
 refine Lp (jQ rfl rfl) rfl rfl ?_
 refine Ls rfl rfl (kG rfl func183 rfl rfl rfl (qc.mono h ?_))
 rintro v I ⟨x14_5,rfl,h⟩;refine Ls rfl rfl (kG rfl func182 rfl rfl rfl (qc.mono (adz (Q:=fun v I=> ∃x1,v= .func (.func 230) #[] #[.pointer (some ⟨x1,0,none⟩)]/\aso B ro x3_1 x4_2 x7_3 x1 x14_5 I Q) fun _=>?_) ?_))
 .unfold jj
  intro x1 g1 g2
  exact⟨x1,rfl,h x1 g1 g2⟩
 rintro x15_6 I ⟨_,rfl,x1,rfl,h⟩
 refine aea ?_;refine acy ?_
 intro w a ho hf
 refine wpIn_block ?_
 obtain⟨zs,J,hrow,hreach,h0,hcl,⟨ob,hob,hobc,hobk⟩,hround,hend⟩:=h
 have hBl:x1<w.heap.size:=ho.lt hob
 have hBc:w.cell? ⟨x1,0,none⟩=some x14_5.v:=by rw[cell?_eq,(ho.own _ _ hob).1];exact hobc
 obtain⟨ks,hk1,hkeep,hI⟩:∃ ks:List Nat,x1∈ks/\(∀pre I',J pre I'->∀ k∈ks,∃o,I k=some o/\I' k=some o)/\
   ((x14_5=⟨none,0,0⟩/\zs=[])\/∃ b cap,x14_5=⟨some ⟨b,0,none⟩,zs.length,cap⟩/\b<w.heap.size/\b∈ks/\∀ j,j<zs.length->w.cell? ⟨b,j,none⟩=some (.string ((zs[j]?).getD ByteArray.empty))):=by
  rcases hrow with h1 | ⟨b,cap,o,h1,h2,h3,h4⟩
  .refine⟨[x1],y0,fun pre I' hJ k hk=>?_,.inl h1⟩
   simp at hk;subst hk
   exact⟨ob,hob,hobk pre I' hJ⟩
  .refine⟨[x1,b],y0,fun pre I' hJ k hk=>?_,.inr ⟨b,cap,h1,ho.lt h2,y0,fun j hj=>?_⟩⟩
   .simp at hk
    rcases hk with rfl | rfl
    .exact⟨ob,hob,hobk pre I' hJ⟩
    .exact⟨o,h2,h3 pre I' hJ⟩
   .rw[cell?_eq,(ho.own _ _ h2).1]
    exact h4 j hj
 refine aoZ (gf:=230) (Bs:=x1) z7 (enters_of func230 j0 rfl) ks rfl (Back.stops 4 z7 x1 x14_5 zs ks hreach w hBc hBl hk1 hI) (fun _=>rfl) ho hf J h0 hcl hkeep
  (fun x=>[(9,.string x.2),(3,.pointer (some ⟨x3_1,0,none⟩)),(4,.pointer (some ⟨x4_2,0,none⟩)),(7,.pointer (some ⟨x7_3,0,none⟩))]) ?hfr ?hbody ?hdone
 case hfr=>
  intro x
  have k:=((hf.put (d:=some 16) rfl (.int .i64 x.1)).put (d:=some 17) rfl (.string x.2)).put (d:=some 9) rfl (.string x.2)
  have k':=(k.weaken (qo.cons rfl (qo.cons rfl (qo.cons rfl (qo.cons rfl (qo.nil _))))):xz 38 [(9,.string x.2),(3,.pointer (some ⟨x3_1,0,none⟩)),(4,.pointer (some ⟨x4_2,0,none⟩)),(7,.pointer (some ⟨x7_3,0,none⟩))] _).d
  have e:((#[16,17].zip #[Value.int .i64 x.1,.string x.2]).foldl (fun t (p,v)=>t.setIfInBounds p v) a.tmps)=(a.tmps.setIfInBounds 16 (.int .i64 x.1)).setIfInBounds 17 (.string x.2):=by simp
  have e2:((a.tmps.setIfInBounds 16 (.int .i64 x.1)).setIfInBounds 17 (.string x.2)).getD 17 undef= .string x.2:=by simp[mT,hf.size]
  refine⟨?_,rfl,fun i v h=>?_⟩
  .have:=k'.size
   rw[e,e2]
   exact this
  .have:=k'.has i v h
   rw[e,e2]
   exact this
 case hbody=>
  intro l pre x I1 hJ hlen
  obtain⟨R,hR,h⟩:∃ R:AH->Prop,(∀I2,R I2->(∀b o,I1 b=some o->∃ o',I2 b=some o')/\∃ I3,HLe I3 I2/\J (pre++[x]) I3)/\rnd B ro x.2 ⟨x3_1,0,none⟩ ⟨x4_2,0,none⟩ ⟨x7_3,0,none⟩ I1 R:=⟨_,fun _ h=>h,hround pre x I1 hJ hlen⟩
  clear hround hend
  refine AWF.mono (Q:=fun e fr I=>e= .normal/\R I) ?_ (fun e fr I ⟨h1,h2⟩=>⟨h1,(hR I h2).1,(hR I h2).2⟩)
  have hO:=aiM.round l
  unfold rnd at h;refine AWF.block ?_
  refine AWF.seq ?_
  refine AWF.reg hO rfl ?_
  refine Lp (jQ rfl rfl) rfl rfl ?_
  refine Ls rfl rfl (kG rfl func81 rfl rfl rfl (qc.mono h ?_))
  rintro v I ⟨x20_2,x20_3,rfl,h⟩;refine Lp (jQ rfl rfl) rfl rfl ?_
  refine Lp (alJ rfl rfl rfl) rfl rfl ?_
  refine Lp (alJ rfl rfl rfl) rfl rfl ?_
  refine Lp (aij rfl rfl) rfl rfl ?_
  refine Lp (aij rfl rfl) rfl rfl ?_
  refine aea ?_;refine acy ?_;refine AWF.seq ?_
  refine AWF.reg hO rfl ?_
  refine Lp (jQ rfl rfl) rfl rfl ?_
  obtain⟨x24_4,hc,h⟩:=h
  refine Ls rfl rfl (vc rfl mo rfl rfl hc ?_)
  refine Lp (alN rfl rfl rfl) rfl rfl ?_
  refine Lp (jQ rfl rfl) rfl rfl ?_
  refine qI 5 (decide (x20_2=x24_4)) me h (fun fr I=> ∃(x31_6:Bool),qo [(9,.string x.2),(7,.pointer (some ⟨x7_3,0,none⟩)),(31,.bool x31_6)] fr/\amY ro x.2 ⟨x7_3,0,none⟩ R x31_6 I) ?_ ?_ ?_
  .intro h e3 hk3;obtain⟨x27_10,hc,h⟩:=h
   refine Lyb rfl rfl rfl rfl e3 (vc rfl nY rfl rfl hc ?_)
   refine qO (jQ rfl rfl) rfl rfl rfl rfl e3 ?_
   refine Lyb rfl rfl rfl rfl e3 (kG rfl func184 rfl rfl rfl (qc.mono h ?_))
   rintro v I ⟨x29_11,rfl,h⟩;refine qO (alL rfl rfl rfl) rfl rfl rfl rfl e3 ?_
   refine Lp (pN rfl (evb e3) rfl) rfl rfl ?_
   exact hk3 _ _ ⟨_,(qo.cons rfl (qo.cons rfl (qo.cons rfl (qo.nil _)))),h⟩
  .intro h e3 hk3;refine Ln rfl rfl rfl rfl (.inl (by rw[e3];try rfl)) ?_
   refine Ln rfl rfl rfl rfl (.inl (by rw[e3];try rfl)) ?_
   refine Ln rfl rfl rfl rfl (.inl (by rw[e3];try rfl)) ?_
   refine Ln rfl rfl rfl rfl (.inl (by rw[e3];try rfl)) ?_
   refine Lp (ux rfl (evb e3) rfl) rfl rfl ?_
   exact hk3 _ _ ⟨_,(qo.cons rfl (qo.cons rfl (qo.cons rfl (qo.nil _)))),h⟩
  rintro fr I ⟨x31_6,hl,h⟩;unfold amY at h;refine Lfr hl ?_
  refine aea ?_;refine acy ?_;refine AWF.iff rfl Iff.rfl h (fun h=>?_) (fun h=>?_)
  rotate_left
  .refine AWF.skip ?_
   exact agj ⟨rfl,h⟩
  refine AWF.reg hO rfl ?_
  obtain⟨x32_7,hc,h⟩:=h
  refine Ls rfl rfl (vc rfl Lr rfl rfl hc ?_)
  refine Lp (jQ rfl rfl) rfl rfl ?_
  refine Lp (wB (vs:=[(0,.int .i64 2),(1,.string x.2)]) (cs:= #[.int .i64 2,.string x.2]) rfl nR acA auT rfl rfl) rfl rfl ?_
  refine Ls rfl rfl (akd (wj (vs:=[(0,.agg #[.int .i64 2,.string x.2])]) (cs:= #[.int .i64 2,.string x.2]) rfl Lr acA y1 rfl rfl) fun x35_8 g1 g2=>?_)
  replace h:=h x35_8 g1 g2
  refine Ls rfl rfl (vZ (s:=Builtin.append_ #[258,258] 258 #[Sl.v x32_7,Sl.v (⟨some ⟨x35_8,0,none⟩,1,1⟩:Sl)]) rfl rfl (fun _=>rfl) (qk _ h ?_))
  rintro v I ⟨x36_9,rfl,h⟩;refine Ls rfl rfl (us rfl aiq rfl rfl rfl rfl (zY h fun I h=>?_))
  refine aea ?_;exact agj ⟨rfl,h⟩
 case hdone=>
  intro D xs W I' fD rD hS hJ hO
  subst hS
  obtain⟨so,hc,hq⟩:=hend I' hJ
  show Code.wpIn _ _ _ _ _ _ _
  refine wpIn_mono ((?hT:AWF Fence.wide 5 [{target:= .collected D,args:= #[]}] prog B ro 38 _ (fun e fr I=>e= .ret/\SL.look fr 6=some (Sl.v so)/\Q so I) [(7,.pointer (some ⟨x7_3,0,none⟩))] I') _ W _ hO ⟨hf.size,?hd,fun i v h=>hf.has i v ?hl⟩) ?hp
  case hT=>
   refine AWF.seq ?_
   refine AWF.reg aiM.wide rfl ?_
   refine Ls rfl rfl (vc rfl Lr rfl rfl hc ?_)
   refine Lp (aij rfl rfl) rfl rfl ?_
   refine aea ?_;refine acy ?_;exact AWF.ret ⟨rfl,rfl,hq⟩
  case hd=>rw[hf.defers]
  case hl=>exact(qo.cons rfl (qo.nil _):qo [(7,.pointer (some ⟨x7_3,0,none⟩))] _) i v h
  case hp=>
   rintro e a' W' ⟨fr',I2,⟨rfl,hl,hq⟩,hO2,hf2⟩
   exact atS (Q:=fun v I=> ∃(r0:Sl),v=Sl.v r0/\Q r0 I) hf2 fD rD hO2 (avW (R:=fun v I=> ∃(r0:Sl),v=Sl.v r0/\Q r0 I) results126 hl ⟨so,rfl,hq⟩)
end G
namespace SL
open Go
variable{P:Program}{B:ZB}{ro I I':AH}{tag tag':Nat->Nat}{L:List Nat}
variable{C R:List Nat}{l:List Value}{q r:Nat}{s:Sl}
def aak(tag:Nat->Nat)(I:AH)(q:Nat)(s:Sl)(l:List Value):Prop:=
 s.len=l.length/\((s.a=none/\l=[])\/∃ p o,s.a=some p/\tag p.block=q/\I p.block=some o/\∀ i v,l[i]?=some v->zF (p.add i) (some o)=some v)
def aak.nil(q:Nat):aak tag I q ⟨none,0,0⟩ []:=⟨rfl,.inl ⟨rfl,rfl⟩⟩
def afo(p:Addr)(i:Nat):(p.add i).block=p.block:=by
 cases i with
 | zero=>rfl
 | succ i=>rfl
def aak.keep(h:aak tag I q s l)(k:qd R ro tag I tag' I')(hq:q∉R:=by simp):aak tag' I' q s l:=by
 obtain⟨h1,h2 | ⟨p,o,h2,h3,h4,h5⟩⟩:=h
 .exact⟨h1,.inl h2⟩
 .obtain⟨e1,e2⟩:=k.keep _ _ h4 (by rw[h3];exact hq)
  exact⟨h1,.inr ⟨p,o,h2,e1.trans h3,e2,h5⟩⟩
def aak.keepS(h:aak tag I q s l)(k:StepS C ro tag I tag' I')(hq:q%64∉C:=by decide):aak tag' I' q s l:=by
 obtain⟨R,h1,h2⟩:=k
 exact h.keep h2 fun m=>hq (h1 _ m)
def aak.read(h:aak tag I q s l)(hs:Sep ro I):qJ ro I s l:=by
 obtain⟨h1,h2 | ⟨p,o,h2,h3,h4,h5⟩⟩:=h
 .exact⟨h1,fun _=>h2.2,fun p hp=>by rw[h2.1]at hp;cases hp⟩
 .refine⟨h1,(fun e=>by rw[h2]at e;cases e),fun p' hp' i v hv=>?_⟩
  rw[h2]at hp';cases hp'
  unfold qa rd
  rw[afo,hs _ _ h4,h4]
  exact h5 i v hv
def Row.held{e:TypeId}(h:Row tag I r e s l):aak tag I r s l:=by
 rcases h with⟨rfl,rfl⟩ | ⟨b,cs,ha,ht,hb,hln,hc,hle,hg⟩
 .exact aak.nil r
 .refine⟨hln,.inr ⟨_,_,ha,ht,hb,fun i v hv=>?_⟩⟩
  have hi:i<l.length:=by
   rcases mM i l.length with h | h
   .exact h
   .rw[mG h]at hv;cases hv
  rw[vq,ml]
  simp only[zF]
  rw[<-hv,<-hg i hi];try rfl
def aak.outR(h:aak tag I q s l)(hq:q∉L):aak tag (SL.zE tag L I) q s l:=by
 obtain⟨h1,h2 | ⟨p,o,h2,h3,h4,h5⟩⟩:=h
 .exact⟨h1,.inl h2⟩
 .exact⟨h1,.inr ⟨p,o,h2,h3,by unfold SL.zE;rw[ma (by rw[h3];exact hq)];exact h4,h5⟩⟩
def asp{ψ:AH}(h:qJ ro (fun _=>none) s l):qJ (join ro ψ) (fun _=>none) s l:=by
 refine⟨h.1,h.2.1,fun p hp i v hv=>?_⟩
 have:=h.2.2 p hp i v hv
 unfold qa rd at this⊢
 cases hr:ro (p.add i).block with
 | none=>rw[hr]at this;simp[zF]at this
 | some o=>rw[hr]at this;unfold join;rw[hr];exact this
end SL
namespace Zt
open Go SL G Pa
variable{B:ZB}{ro I I':AH}{tag tag':Nat->Nat}
variable{owner qb qn:Int}{ops:List MOp}{C:List Nat}{l:List Value}{T b q r:Nat}{dr tag1 tg:Nat->Nat}{s:Sl}{Q:Sl->Sl->Int->Int->AH->Prop}{st:St}{home:Str}
def opV(o:MOp)(d:Sl):List Value:=[vI o.kind,Pa.vS o.path,Sl.v d,vI o.ver,.bool o.eph,.bool o.seq]
def aak.retag{r':Nat}(h:aak tag I r s l)(hr:∀ c,tag c=r->I c≠none->tg c=r'):aak tg I r' s l:=by
 obtain⟨h1,h2 | ⟨p,o,h2,h3,h4,h5⟩⟩:=h
 .exact⟨h1,.inl h2⟩
 .exact⟨h1,.inr ⟨p,o,h2,hr _ h3 (by rw[h4];simp),h4,h5⟩⟩
def aaK(dr tag:Nat->Nat)(I:AH)(q:Nat)(s:Sl)(ops:List MOp):Prop:=
 ∃ds:List Sl,ds.length=ops.length/\ql tag I q 72 6 s (List.zipWith opV ops ds)/\∀ (i:Nat) (o:MOp) (d:Sl),ops[i]?=some o->ds[i]?=some d->aak tag I (dr i) d (o.data.map vU)
abbrev abR(tag:Nat->Nat)(I:AH)(q:Nat)(s:Sl)(ops:List MOp):Prop:=aaK (fun _=>6) tag I q s ops
def aaK.keepS(h:aaK dr tag I q s ops)(k:StepS C ro tag I tag' I')(hq:q%64∉C:=by decide)(h6:∀ i,dr i%64∉C:=by decide):aaK dr tag' I' q s ops:=by
 obtain⟨ds,h1,h2,h3⟩:=h
 exact⟨ds,h1,ql.keepS h2 k hq,fun i o d ho hd=>(h3 i o d ho hd).keepS k (h6 i)⟩
def abR.keepS(h:abR tag I q s ops)(k:StepS C ro tag I tag' I')(hq:q%64∉C:=by decide)(h6:6∉C:=by decide):abR tag' I' q s ops:=aaK.keepS h k hq fun _=>h6
def aaK.len(h:aaK dr tag I q s ops):s.len=ops.length:=by
 obtain⟨ds,h1,h2,h3⟩:=h
 rw[h2.len,List.length_zipWith,h1,Nat.min_self]
def aaK.retag(h:aaK dr tag I q s ops)(hr:∀ c,tag c=q\/(∃i,tag c=dr i)->I c≠none->tg c=tag c):aaK dr tg I q s ops:=by
 obtain⟨ds,h1,h2,h3⟩:=h
 exact⟨ds,h1,ql.retag h2 fun c hc hn=>by rw[hr c (.inl hc) hn,hc],fun i o d ho hd=>aak.retag (h3 i o d ho hd) fun c hc hn=>by rw[hr c (.inr ⟨i,hc⟩) hn,hc]⟩
abbrev DA:List Nat:=[0,1,2,3,4,5,12,13,14,15,17,18,19,20,21,25,26,27,30,31]
def auZ:∀ c∈DC,c∈DA:=y1
def ag5{e:TypeId}{n c:Nat}{vs:List Value}{K:AH->Prop}(h:Row tag I r e ⟨some ⟨b,0,none⟩,n,c⟩ l)(hs:SL.Sep ro I)(hl:vs.length=l.length)(hv:∀ v∈vs,qg v=true)
  (hK:∀ I',qd [r] ro tag I tag I'->Row tag I' r e ⟨some ⟨b,0,none⟩,n,c⟩ vs->SL.qe ro I' ⟨b,0,none⟩ 0 vs->K I'):stN ⟨b,0,none⟩ K vs 0 I:=
 h.stAll hs hl hv fun I' st r'=>hK I' st r' (Row.cellsAt r' st.sep)
def applyD_ok(g:ze ro)(hr:r<64)(hrD:r∉DA)(hr6:r≠6)(hr63:r≠63)(hq:q%64∉DA)(hq63:q≠63)(hT:wd tag I r T st)(hi:qQ b st)(hb:b<=1073741824)
  (hdr:∀ i,dr i%64∉r::DA) (hops:aaK dr tag I q s ops) (hdl:∀ o∈ops,o.data.length<4611686018427387904) (hhl:home.length<=4611686018427387903)
  (hQ:∀ (rs es:Sl) (tag':Nat->Nat) (I':AH),StepS (r::DA) ro tag I tag' I'->wd tag' I' r T (qR st home owner qn qb ops).st->ql tag' I' 14 128 2 rs ((qR st home owner qn qb ops).res.map xQ)->ql tag' I' 15 336 2 es ((qR st home owner qn qb ops).eff.map afO)->
   Q rs es (qR st home owner qn qb ops).bad (qR st home owner qn qb ops).err I'):
  adk B ro (some ⟨T,0,none⟩) (S home) owner qn qb s I Q:=by
 refine amW fun hs=>?_
 unfold afN
 have hsl:=hops.len
 let tag0:Nat->Nat:=fun c=>if I c≠none/\tag c%64=12 then 63 else tag c
 have t0:∀ c,tag c%64≠12->tag0 c=tag c:=fun c h=>by simp only[tag0];rw[ma (fun h'=>h h'.2)]
 have hT0:wd tag0 I r T st:=hT.retag fun c hc _=>t0 c (by
  rcases hc with h | h
  .intro h';simp only[mp,not_or]at hrD;omega
  .omega)
 have hops0:aaK dr tag0 I q s ops:=hops.retag fun c hc _=>t0 c (by
  rcases hc with h | ⟨i,h⟩
  .intro h';simp only[mp,not_or]at hq;rw[h]at h';omega
  .intro h';have:=hdr i;simp only[mp,not_or]at this;rw[h]at h';omega)
 have old12:∀ c,I c≠none->tag0 c%64≠12:=fun c hc h=>by
  simp only[tag0]at h
  split at h
  .simp at h
  .rename_i hn;exact hn ⟨hc,h⟩
 have conv:∀ (tagE:Nat->Nat) (IE:AH),StepS (r::DA) ro tag0 I tagE IE->∀ tagF:Nat->Nat,(∀c,tagF c=if I c≠none then tag c else if tagE c%64=12 then tagE c - 12+r else tagE c)->
   StepS (r::DA) ro tag I tagF IE/\(∀c,IE c≠none->tagE c%64≠12->tagE c≠63->tagF c=tagE c)/\(∀c,tagE c%64=12->tagF c=tagE c - 12+r):=fun tagE IE stE tagF hF=>by
  obtain⟨R,hR,stR⟩:=stE
  have holdE:∀ c,I c≠none->tagE c=tag0 c:=fun c hc=>by
   cases h:I c with
   | none=>exact mt h hc
   | some o=>exact(stR.old c o h).1
  refine⟨⟨R,hR,⟨fun c o hc hn=>?_,fun c o hc=>?_,stR.sep⟩⟩,fun c hcE h12 h63=>?_,fun c h12=>?_⟩
  .have hne:I c≠none:=by rw[hc];simp
   refine⟨by rw[hF,mc hne],?_⟩
   by_cases h:tag c%64=12
   .have e:tag0 c=63:=by simp only[tag0];rw[mc ⟨hne,h⟩]
    refine(stR.keep c o hc ?_).2
    rw[e]
    intro hm
    have:=hR 63 hm
    simp only[mp,not_or]at this
    rcases this with h | h
    .omega
    .revert h;decide
   .exact(stR.keep c o hc (by rw[t0 c h];exact hn)).2
  .have hne:I c≠none:=by rw[hc];simp
   exact⟨by rw[hF,mc hne],(stR.old c o hc).2⟩
  .by_cases hne:I c≠none
   .rw[hF,mc hne]
    have e:=holdE c hne
    by_cases h:tag c%64=12
    .have e2:tag0 c=63:=by simp only[tag0];rw[mc ⟨hne,h⟩]
     exact mt (e.trans e2) h63
    .rw[e,t0 c h]
   .rw[hF,ma hne,ma h12]
  .have hne:¬ I c≠none:=fun hne=>old12 c hne (by rw[<-holdE c hne];exact h12)
   rw[hF,ma hne,mc h12]
 have quick:∀ (e bad:Int) (tag1:Nat->Nat) (I1:AH) (x10:Nat),qR st home owner qn qb ops=⟨st,[],[],bad,e⟩->StepS (r::DA) ro tag0 I tag1 I1->wd tag1 I1 r T st->Row tag1 I1 26 348 ⟨some ⟨x10,0,none⟩,3,3⟩ [Sl.v ⟨none,0,0⟩,Sl.v ⟨none,0,0⟩,vI 0]->
   stN ⟨x10,0,none⟩ (fun I=> ∃(x10_3a:Sl) (x10_3b:Sl) (x10_3c:Int),SL.qe ro I ⟨x10,0,none⟩ 0 [Sl.v x10_3a,Sl.v x10_3b,.int .i64 x10_3c]/\Q x10_3a x10_3b x10_3c e I) [Sl.v (⟨none,0,0⟩:Sl),Sl.v (⟨none,0,0⟩:Sl),.int .i64 bad] 0 I1:=by
  intro e bad tag1 I1 x10 hE st1 hT1 r1
  refine ag5 r1 st1.sep y0 (by simp[qg,Sl.v]) fun I2 st2 r2 c2=>?_
  refine⟨⟨none,0,0⟩,⟨none,0,0⟩,bad,c2,?_⟩
  obtain⟨k1,k2,_⟩:=conv tag1 I2 (st1.trans (st2.s y0)) _ fun c=>rfl
  rw[hE]at hQ
  refine hQ ⟨none,0,0⟩ ⟨none,0,0⟩ _ I2 k1 ?_ (ql.nil _ _ _) (ql.nil _ _ _)
  refine(hT1.keep st2 (by simp only[mp,not_or]at hrD;simp;omega)).retag fun c hc hn=>?_
  refine k2 c hn ?_ ?_
  .simp only[mp,not_or]at hrD
   rcases hc with h | h<;>omega
  .rcases hc with h | h
   .intro h';rw[h']at h;omega
   .omega
 refine qf (tag:=tag0) 25 hs fun x8 tag1 I1 st1 r1=>?_
 refine qf (tag:=tag1) 26 (st1 []).sep fun x10 tag2 I2 st2 r2=>?_
 have st02:StepS (r::DA) ro tag0 I tag2 I2:=((st1 []).s y0).trans ((st2 []).s y0)
 have hT2:=(hT0.keep (st1 [])).keep (st2 [])
 have hops2:=(hops0.keepS ((st1 []).s (C:=[]) y0) y0 y0).keepS ((st2 []).s (C:=[]) y0) y0 y0
 by_cases c1:ops.length=0\/16<ops.length
 .rw[mc z7]
  exact quick 80 0 tag2 I2 x10 (by unfold qR;rw[mc c1]) st02 hT2 r2
 rw[ma z7]
 by_cases c2:owner<1\/4611686018427387903<owner
 .rw[mc c2]
  exact quick 10 0 tag2 I2 x10 (by unfold qR;rw[ma c1,mc c2]) st02 hT2 r2
 rw[ma c2]
 obtain⟨R0,hR0⟩:∃ R0,zt home owner qn qb ops 0 ⟨srt st,[],[]⟩=R0:=⟨_,rfl⟩
 have hAE:qR st home owner qn qb ops=adf st R0:=by unfold qR;rw[ma c1,ma c2,hR0]
 have hrD':=hrD
 simp only[mp,nj,or_false,not_or]at hrD'
 have hlen:=hi.len
 obtain⟨M2,bs2,hA2⟩:=hT2
 refine asi hr z7 z7 z7 z7 hA2 hi.inv.small z7 fun se tag3 I3 st3 r3=>?_
 have hRr:∀ x∈[30,94,1],x%64≠r%64/\x≠6:=fun x hx=>by
  simp only[mp,nj,or_false]at hx;omega
 have hT3:wd tag3 I3 r T st:=⟨M2,bs2,hA2.keep st3 hRr⟩
 have hel:=atQ hi z7
 have hdec:=atK (hi.inv3 z7) z7
 refine ask (tag:=tag3) (r:=12) g y1 y1 y1 y1 (r3.read st3.sep) z7 (fun hn=>by rw[hdec]at hn;cases hn) fun st' hst' U tag4 I4 st4 h4=>?_
 rw[hdec]at hst'
 obtain rfl:=mB hst'
 have st3s:StepS (r::DA) ro tag2 I2 tag3 I3:=st3.s y0
 have st4s:StepS (r::DA) ro tag3 I3 tag4 I4:=st4.mono y0
 have hT4:=hT3.keepS st4 j2 y1
 have hdC:∀ C:List Nat,(∀c∈C,c∈DA)->∀ i,dr i%64∉C:=fun C hC i hm=>hdr i (List.mem_cons_of_mem _ (hC _ hm))
 have hops4:=(hops2.keepS (st3.s (C:=[30,1]) y1) (by simp only[mp,not_or]at hq ⊢;simp;omega) (hdC _ y1)).keepS st4 (by simp only[mp,not_or]at hq ⊢;simp;omega) (hdC _ y1)
 have r84:=((r1.keep (st2 [])).keep st3 y1).keepS st4
 have r104:=(r2.keep st3 y1).keepS st4
 refine⟨qn,qb,Row.cellsAt r84 st4.sep,?_⟩
 refine qf (tag:=tag4) 13 st4.sep fun W tag5 I5 st5 r5=>?_
 have hW5:ade tag5 I5 W U home owner qn qb [] []:=⟨⟨none,0,0⟩,⟨none,0,0⟩,r5,ql.nil _ _ _,ql.nil _ _ _⟩
 suffices∀(m j:Nat) (w:ph) (tag6:Nat->Nat) (I6:AH),j+m=ops.length->zt home owner qn qb (ops.drop j) j w=R0->qQ (b+j) w.st->w.res.length<=j/\w.eff.length<=j->StepS (r::DA) ro tag0 I tag6 I6->ade tag6 I6 W U home owner qn qb w.res w.eff->wd tag6 I6 12 U w.st->wd tag6 I6 r T st->aaK dr tag6 I6 q s ops->
   Row tag6 I6 26 348 ⟨some ⟨x10,0,none⟩,3,3⟩ [Sl.v ⟨none,0,0⟩,Sl.v ⟨none,0,0⟩,vI 0]->lfpD (uP B ro (some ⟨T,0,none⟩) s x10 (some ⟨U,0,none⟩) W Q) (j:Int) I6 from
  this _ 0 ⟨srt st,[],[]⟩ tag5 I5 (ml _) hR0 (adK hi) ⟨y0,y0⟩ (st02.trans (st3s.trans (st4s.trans ((st5 []).s y0)))) hW5 (h4.keep (st5 [])) (hT4.keep (st5 [])) (hops4.keepS ((st5 []).s (C:=[]) y0) y0 y0) (r104.keep (st5 []))
 intro m
 induction m with
 | zero=>
  intro j w tag6 I6 hj hap hi6 hl6 st6 hW6 hU6 hT6 hops6 r106
  refine lfpD.intro ?_
  unfold uP
  rw[ma z7]
  rw[LI z7]at hap
  have hAE':qR st home owner qn qb ops=⟨w.st,w.res,w.eff,-1,0⟩:=by rw[hAE,<-hap];try rfl
  unfold abQ
  obtain⟨M6,bs6,hA6⟩:=hT6
  obtain⟨MU,bsU,hAU⟩:=hU6
  refine⟨_,rfl,some MU,Row.cellsAt hAU.cell st6.sep,_,rfl,?_⟩
  refine ag5 hA6.cell st6.sep y0 (by simp[qg]) fun I7 st7 r7 _=>?_
  obtain⟨rs,es,a,bb,cc⟩:=hW6.mem
  have hr13:∀ x:Nat,x∈DA->x∉[r]:=fun x hx h=>by
   rw[mr]at h;rw[h]at hx;exact hrD hx
  refine(a.keep st7 (hr13 13 y1)).st (i:=2) st7.sep rfl y0 rfl fun I8 st8 r8=>?_
  obtain⟨pw,hpw,hgw⟩:=r8.ptr st8.sep y0
  cases hpw
  refine⟨rs,es,-1,zx 0 fun i v hv=>?_,?_⟩
  .rw[ml]
   rcases i with _ | _ | _ | i
   .cases hv;exact hgw 0 _ rfl
   .cases hv;exact hgw 1 _ rfl
   .cases hv;exact hgw 2 _ rfl
   .cases hv
  have r108:=(r106.keep st7 (hr13 26 y1)).keep st8
  refine ag5 r108 st8.sep y0 (by simp[qg,Sl.v]) fun I9 st9 r9 c9=>?_
  refine⟨rs,es,-1,c9,?_⟩
  have st69:StepS (r::DA) ro tag0 I tag6 I9:=st6.trans ((st7.s j2).trans ((st8.s y0).trans (st9.s y0)))
  obtain⟨k1,k2,k3⟩:=conv tag6 I9 st69 _ fun c=>rfl
  rw[hAE']at hQ
  refine hQ rs es _ I9 k1 ?_ ?_ ?_
  .-- the tree that has taken the place
   have u7:=hAU.keep st7 j2
   have u8:=u7.keep st8
   have u9:=u8.keep st9
   have c79:=(r7.keep st8 j2).keep st9 j2
   refine⟨MU,bsU,u9.keys,u9.len,u9.nd,Row.retag c79 fun c hc hn=>?_,zW.retag u9.map fun c hc hn=>?_,fun i c p hc hp=>?_⟩
   .rw[k2 c hn (by rw[hc];omega) z7,hc]
   .rw[k3 c (by rw[hc]),hc];omega
   .obtain⟨ds,n1,n2⟩:=u9.nodes i c p hc hp
    refine⟨ds,Row.retag n1 fun c' hc' hn=>?_,Row.retag n2 fun c' hc' hn=>?_⟩
    .rw[k3 c' (by rw[hc']<;>omega),hc']<;>omega
    .rw[k2 c' hn (by rw[hc'];decide) z7,hc']
  .have:=((bb.keep st7 (hr13 14 y1)).keep st8).keep st9
   exact ql.retag this fun c hc hn=>by rw[k2 c hn (by rw[hc];decide) z7,hc]
  .have:=((cc.keep st7 (hr13 15 y1)).keep st8).keep st9
   exact ql.retag this fun c hc hn=>by rw[k2 c hn (by rw[hc];decide) z7,hc]
 | succ m ih=>
  intro j w tag6 I6 hj hap hi6 hl6 st6 hW6 hU6 hT6 hops6 r106
  have hjl:j<ops.length:=by omega
  obtain⟨ds,d1,d2,d3⟩:=id hops6
  have hjd:j<ds.length:=by omega
  have hz:(List.zipWith opV ops ds)[j]?=some (opV ops[j] ds[j]):=by
   rw[List.getElem?_zipWith,md hjl,md hjd];try rfl
  have hdj:=d3 j ops[j] ds[j] (md hjl) (md hjd)
  have hdlj:=hdl _ (mJ hjl)
  obtain⟨bq,hbq,_,hget⟩:=d2.get st6.sep hz
  have hdrop:ops.drop j=ops[j]::ops.drop (j+1):=List.drop_eq_getElem_cons hjl
  refine lfpD.intro ?_
  unfold uP
  rw[mc z7]
  refine⟨_,hbq,z7,z7,ops[j].kind,S ops[j].path,ds[j],ops[j].ver,ops[j].eph,ops[j].seq,zx 0 fun i v hv=>?_,?_⟩
  .rw[mq,vq,vq,ml,ml]
   exact hget i v hv
  refine kz (tag:=tag6) 27 st6.sep rfl (by simp[qg,Sl.v]) fun x16 tag7 I7 st7 r7=>?_
  refine⟨ops[j].kind,S ops[j].path,ds[j],ops[j].ver,ops[j].eph,ops[j].seq,Row.cellsAt r7 (st7 []).sep,?_⟩
  have k7:∀ C:List Nat,StepS C ro tag6 I6 tag7 I7:=fun C=>(st7 []).s y0
  have hq':=hq
  simp only[mp,nj,or_false,not_or]at hq'
  rw[hdrop]at hap
  unfold zt at hap
  refine awh (tag:=tag7) (b:=b+j) (w:=w) g (hW6.keepS (k7 []) y0 y0 y0) (hU6.keep (st7 [])) hi6 z7 ⟨z7,z7⟩ ((hdj.keep (st7 [])).read (st7 []).sep) hdlj hhl (fun he tag8 I8 st8=>?_) fun he tag8 I8 st8 hW8 hU8=>?_
  .rw[mc (j4 he)]
   rw[mc he]at hap
   have hAE':qR st home owner qn qb ops=⟨st,[],[],(j:Nat),(doE home owner qn qb w ops[j]).1⟩:=by rw[hAE,<-hap];try rfl
   refine quick _ (j:Nat) tag8 I8 x10 hAE' (st6.trans ((k7 _).trans (st8.mono (fun c hc=>List.mem_cons_of_mem _ (auZ c hc))))) ((hT6.keep (st7 [])).keepS st8 j2 y1) ((r106.keep (st7 [])).keepS st8)
  .rw[ma y0]
   rw[ma (j4 he)]at hap
   rw[Pa.inc j z7]
   have hdl':=aql (home:=home) (owner:=owner) (qn:=qn) (qb:=qb) (w:=w) (o:=ops[j])
   have hi7:qQ (b+(j+1)) (doE home owner qn qb w ops[j]).2.st:=by
    have hbj:b+j<=4398046511103:=by omega
    have:=aeT (home:=home) (owner:=owner) (qn:=qn) (qb:=qb) (o:=ops[j]) hi6 hbj
    exact this
   refine ih (j+1) _ tag8 I8 z7 hap hi7 ⟨z7,z7⟩ (st6.trans ((k7 _).trans (st8.mono (fun c hc=>List.mem_cons_of_mem _ (auZ c hc))))) hW8 hU8 ((hT6.keep (st7 [])).keepS st8 j2 y1) ((hops6.keepS (k7 []) y0 y0).keepS st8 j2 (hdC _ y1)) ((r106.keep (st7 [])).keepS st8)
def atT(g:ze ro)(hr:r<64)(hrD:r∉DA)(hr6:r≠6)(hr63:r≠63)(hq:q%64∉DA)(hq63:q≠63)(hT:wd tag I r T st)(hi:qQ b st)(hb:b<=1073741824)
  (hops:abR tag I q s ops) (hdl:∀ o∈ops,o.data.length<4611686018427387904) (hhl:home.length<=4611686018427387903)
  (hQ:∀ (rs es:Sl) (tag':Nat->Nat) (I':AH),StepS (r::DA) ro tag I tag' I'->wd tag' I' r T (qR st home owner qn qb ops).st->ql tag' I' 14 128 2 rs ((qR st home owner qn qb ops).res.map xQ)->ql tag' I' 15 336 2 es ((qR st home owner qn qb ops).eff.map afO)->
   Q rs es (qR st home owner qn qb ops).bad (qR st home owner qn qb ops).err I'):
  adk B ro (some ⟨T,0,none⟩) (S home) owner qn qb s I Q:=
 applyD_ok (dr:=fun _=>6) g hr hrD hr6 hr63 hq hq63 hT hi hb (fun _=>by simp only[mp,not_or];exact⟨z7,y1⟩) hops hdl hhl hQ
def alk(ro:AH)(s:Sl)(ops:List MOp):Prop:=s.len=ops.length/\∀ j o,ops[j]?=some o->∃ q ds,s.a=some q/\(∀I,SL.qe ro I (q.add (j*6)) 0 (opV o ds))/\SL.qJ ro (fun _=>none) ds (o.data.map vU)/\o.data.length<=140737488351232
def axB(ro I:AH)(s:Sl)(ops:List MOp):Prop:=s.len=ops.length/\∀ j o,ops[j]?=some o->∃ q ds,s.a=some q/\SL.qe ro I (q.add (j*6)) 0 (opV o ds)/\SL.qJ ro (fun _=>none) ds (o.data.map vU)/\o.data.length<=140737488351232
def alk.m(h:alk ro s ops)(I:AH):axB ro I s ops:=⟨h.1,fun j o ho=>by
 obtain⟨q,ds,h1,h2,h3,h4⟩:=h.2 j o ho
 exact⟨q,ds,h1,h2 I,h3,h4⟩⟩
def apE{I1:AH}(st:∀ R,qd R ro (fun _=>7) I tag1 I1)(tag:Nat->Nat)(q:Nat):
  ∃tag',(∀R,qd R ro tag I tag' I1)/\∀ e s l,Row tag1 I1 6 e s l->Row tag' I1 q e s l:=by
 refine⟨fun c=>if(I c).isSome then tag c else q,fun R=>⟨fun b o hb _=>⟨by simp[hb],((st []).keep b o hb y0).2⟩,fun b o hb=>⟨by simp[hb],o,((st []).keep b o hb y0).2⟩,(st []).sep⟩,fun e s l h=>?_⟩
 rcases h with h | ⟨b,cs,ha,ht,hb,hx'⟩
 .exact .inl h
 .refine .inr ⟨b,cs,ha,?_,hb,hx'⟩
  cases e:I b with
  | none=>simp[e]
  | some o=>
   have:=((st []).old b o e).1
   rw[ht]at this;cases this
def atU(q:Nat){Q:Sl->AH->Prop}(h:SL.qJ ro I s l)(hs:SL.Sep ro I)(hl:l.length<=140737488355328)(hv:∀ v∈l,qg v=true)(hQ:∀ s' tag' I',(∀R,qd R ro tag I tag' I')->Row tag' I' q 5 s' l->Q s' I'):aef B ro s I Q:=
 copy_ok (tag:=fun _=>7) h hs hl hv fun s' tag1 I1 st r=>by
  obtain⟨tg,k1,k2⟩:=apE st tag q
  exact hQ s' tg I1 k1 (k2 _ _ _ r)
end Zt
namespace SL
open Go
variable{ro I I':AH}{tag tag':Nat->Nat}
variable{τ ψ:AH}{a:Addr}
def ao1{v:ZC}(h:qa ro (fun _=>none) a=some v):qa (join ro ψ) τ a=some v:=by
 unfold qa rd at h⊢
 cases e:ro a.block with
 | none=>rw[e]at h;simp[zF]at h
 | some o=>rw[e]at h;rw[vJ e];exact h
def al7:∀ {l:List Value} {i:Nat},qe ro (fun _=>none) a i l->qe (join ro ψ) τ a i l
 | [],_,_=>trivial
 | _::_,_,h=>⟨ao1 h.1,al7 h.2⟩
def qJ.ro'{s:Sl}{l:List Value}(h:qJ ro (fun _=>none) s l):qJ (join ro ψ) (fun _=>none) s l:=
 ⟨h.1,h.2.1,fun p hp i v hv=>ao1 (h.2.2 p hp i v hv)⟩
end SL
namespace Zt
open Go SL G Pa
variable{B:ZB}{ro I I':AH}{tag tag':Nat->Nat}
variable{n owner qb qn:Int}{ws:List Int}{ops:List MOp}{st:St}{h home:Str}
def bnd(st:St)(home:Str)(qn qb:Int):Prop:=((zh st home).1:Int)<=qn/\((zh st home).2:Int)<=qb
def acG(p:Str×Nd)(r:St)(h:Str):zh (p::r) h=((zh r h).1+(if qq p.1=some h then 1 else 0),uw h p+(zh r h).2):=by
 unfold zh
 rw[List.countP_cons,mF,List.sum_cons]
 simp
def aiN{u:Str}{f:Nd->Nd}(hf:∀ n,(f n).data=n.data):∀ st,zh (wH st u f) h=zh st h
 | []=>rfl
 | p::r=>by
  have ih:=aiN (u:=u) hf r
  show zh ((if p.1=u then(p.1,f p.2)else p)::wH r u f) h=_
  rw[acG,acG,ih]
  have e1:uw h (if p.1=u then(p.1,f p.2)else p)=uw h p:=by
   split
   .unfold uw;rw[hf]
   .rfl
  have e2:(if p.1=u then(p.1,f p.2)else p).1=p.1:=by split<;>rfl
  rw[e1,e2]
def al8{k:Str}:∀ st,(zh (pd st k) h).1<=(zh st h).1/\(zh (pd st k) h).2<=(zh st h).2
 | []=>⟨mR _,mR _⟩
 | (k',n)::r=>by
  have ih:=al8 (k:=k) r
  unfold pd
  split
  .rw[acG];exact⟨y0,y0⟩
  .rw[acG,acG];exact⟨by simp only;omega,by simp only;omega⟩
def al9{p:Str}{v:Int}(h:bnd st home qn qb):bnd (wo st p v).1 home qn qb:=by
 unfold wo
 split
 .exact h
 .split
  .exact h
  .split
   .exact h
   .split
    .exact h
    .split
     .exact h
     .rename_i u hu
      obtain⟨a,b⟩:=al8 (h:=home) (k:=p) (wH st u pB)
      rw[aiN (f:=pB) (fun n=>rfl) st]at a b
      obtain⟨c,d⟩:=h
      unfold bnd
      simp only
      exact⟨z7,z7⟩
def awj{w:ph}{o:MOp}(h:bnd w.st home qn qb)(he:(doE home owner qn qb w o).1=0):bnd (doE home owner qn qb w o).2.st home qn qb:=by
 unfold doE at he⊢
 split at he
 .rename_i hc;exact mt he hc
 .rename_i hw
  rw[ma hw]
  split at he
  .rename_i hc;exact mt he hc
  .rename_i hc
   rw[ma hc]
   split at he
   .cases he
   .rename_i ho
    rw[ma ho]
    simp only
    simp only[Ld]at hw
    have hk:1<=o.kind/\o.kind<=4:=by
     unfold wT at hw
     split at hw
     .cases hw
     .omega
    unfold aer at ho
    by_cases k13:o.kind=1\/o.kind=3
    .have:(decide (o.kind=1) || decide (o.kind=3))=true:=by rcases k13 with k | k<;>simp[k]
     rw[this]at ho
     simp only[Bool.true_and,Bool.or_eq_true,mS,not_or]at ho
     exact⟨z7,z7⟩
    .unfold vT
     rw[ma z7]
     by_cases k2:o.kind=2
     .rw[mc k2];exact al9 h
     .rw[ma k2,ma z7];exact h
def ara:∀ {os:List MOp} {i:Nat} {w w':ph},zt home owner qn qb os i w= .inr w'->bnd w.st home qn qb->bnd w'.st home qn qb:=by
 intro os
 induction os with
 | nil=>intro i w w' h hb;cases h;exact hb
 | cons o os ih=>
  intro i w w' h hb
  unfold zt at h
  split at h
  .cases h
  .rename_i hc
   exact ih h (awj hb (j4 hc))
def asq(h:bnd st home qn qb):bnd (qR st home owner qn qb ops).st home qn qb:=by
 unfold qR
 split
 .exact h
 .split
  .exact h
  .cases e:zt home owner qn qb ops 0 ⟨srt st,[],[]⟩with
   | inl x=>exact h
   | inr w=>
    refine ara e ?_
    unfold bnd
    simp only
    rw[af4 (zZ st)]
    exact h
def alk.ro'{ψ:AH}{s:Sl}(h:alk ro s ops):alk (join ro ψ) s ops:=by
 refine⟨h.1,fun j o ho=>?_⟩
 obtain⟨q,ds,h1,h2,h3,h4⟩:=h.2 j o ho
 exact⟨q,ds,h1,fun I=>al7 (h2 _),h3.ro',h4⟩
def apF{s:Sl}{Q:Bool->AH->Prop}(h:SL.qJ ro I s (ws.map vI))(hl:ws.length<=4611686018427387903)(hQ:Q (decide (n∈ws)) I):px B ro s n I Q:=by
 refine afG fun _=>?_
 unfold py
 refine agR fun _=>?_
 unfold aai
 obtain⟨a1,a2,a3⟩:=h
 rw[mg]at a1
 suffices∀m j,j+m=ws.length->(∀i,i<j->ws[i]?≠some n)->lfpD (xd B ro s n fun x7_1 I=>Q (decide (0<=x7_1)) I) (j:Int) I from this _ 0 (ml _) fun i h=>mt h (Nat.not_lt_zero _)
 intro m
 induction m with
 | zero=>
  intro j hj hno
  refine lfpD.intro ?_
  unfold xd
  rw[ma z7]
  unfold jO
  rw[Lf (fun hm=>?_)]at hQ
  .exact hQ
  .obtain⟨i,hi,e⟩:=ni hm
   exact hno i z7 (by rw[md hi,e])
 | succ m ih=>
  intro j hj hno
  have hjl:j<ws.length:=by omega
  obtain⟨p,hp⟩:∃ p,s.a=some p:=by
   cases e:s.a with
   | none=>have:=a2 e;simp at this;rw[this]at hjl;simp at hjl
   | some p=>exact⟨p,rfl⟩
  refine lfpD.intro ?_
  unfold xd
  rw[mc z7]
  refine⟨p,hp,z7,z7,ws[j],by rw[mq,mV];exact a3 p hp j _ (by rw[mh,md hjl];try rfl),?_⟩
  by_cases c:n=ws[j]
  .rw[mc c]
   rw[Lk (by rw[c];exact mJ hjl)]at hQ
   rw[Lk z7];exact hQ
  .rw[ma c,Pa.inc j z7]
   refine ih (j+1) z7 fun i hi=>?_
   rcases mM i j with h | h
   .exact hno i h
   .obtain rfl:i=j:=by omega
    rw[md hjl]
    exact fun e=>c (mB e).symm
def pS(st:St)(ws:List Int)(k:Str):Bool:=match st.lookup k with
 | some n=>decide (n.own≠0/\n.own∈ws)
 | none=>false
def atV{r T q:Nat}{a1:Sl}{Q:Sl->AH->Prop}(hr:r<64)(hr0:r≠0)(hq:q<64)(hqr:q≠r)(hq6:q≠6)(h:wd tag I r T st)(hs:∀ p∈st,p.1.length<=128)(hn:st.length<=4294967296)(hw:SL.qJ ro (fun _=>none) a1 (ws.map vI))(hwl:ws.length<=4611686018427387903)
  (hQ:∀ (s:Sl) (tag':Nat->Nat) (I':AH) (ks:List Str),StepS [0,q] ro tag I tag' I'->ks.Perm (st.map (·.1))->ks.Pairwise (· <= ·)->Row tag' I' q 9 s ((ks.filter fun k=>pS st ws k).map Pa.vS)->Q s I'):ab6 B ro (some ⟨T,0,none⟩) a1 I Q:=by
 obtain⟨M,bs,hA⟩:=h
 refine ajh fun hsep=>?_
 unfold acd
 refine aiE (q:=q+64) hA hs z7 fun s tag2 I2 ks st2 hpm hsrt hr2=>?_
 have hln:s.len=ks.length:=by rw[hr2.len,mg]
 have hkl:ks.length=st.length:=by rw[hpm.length_eq,mg]
 suffices∀m j (so:Sl) tag3 I3,j+m=ks.length->qd [q] ro tag2 I2 tag3 I3->Row tag3 I3 q 9 so (((ks.take j).filter fun k=>pS st ws k).map Pa.vS)->lfpD (xx B ro (some ⟨T,0,none⟩) a1 s Q) (so,(j:Int)) I3 from
  this _ 0 ⟨none,0,0⟩ tag2 I2 (ml _) (qd.refl (st2 []).sep) (Row.nil q 9)
 intro m
 induction m with
 | zero=>
  intro j so tag3 I3 hj st3 hso
  refine lfpD.intro ?_
  unfold xx
  simp only
  rw[ma z7]
  unfold um
  rw[mD z7]at hso
  exact hQ so tag3 I3 ks (((st2 []).s y0).trans (st3.s (by simp[nN hq]))) hpm hsrt hso
 | succ m ih=>
  intro j so tag3 I3 hj st3 hso
  have hjl:j<ks.length:=by omega
  have hs3:=hr2.keep st3
  obtain⟨pp,hpp,_,hget⟩:=Row.sget hs3 st3.sep hjl
  have hA3:=(hA.keep (st2 [])).keep st3 j2
  have etk:ks.take (j+1)=ks.take j++[ks[j]]:=by rw[mK,md hjl];try rfl
  have hnl:((ks.take j).filter fun x=>pS st ws x).length<=j:=by
   refine LA (List.length_filter_le _ _) ?_
   rw[nA];omega
  refine lfpD.intro ?_
  unfold xx
  simp only
  rw[mc z7]
  refine⟨pp,hpp,z7,z7,S ks[j],hget j hjl,_,rfl,_,Row.cell1 hA3.cell st3.sep,?_⟩
  refine ya hA3.map st3.sep u126 u9 aiA ?_
  rcases acf st bs ks[j] hA.len with⟨a,e⟩ | ⟨i,b,n,a1',a2',a3',e⟩
  .exact mt (hpm.mem_iff.1 (mJ hjl)) (ac8 a)
  rw[e]
  obtain⟨ds,hnd,_⟩:=hA3.nodes i b _ a1' a2'
  obtain⟨pb,hpb,hgb⟩:=hnd.ptr st3.sep y0
  cases hpb
  refine⟨some ⟨b,0,none⟩,rfl,_,rfl,n.own,hgb 2 _ rfl,?_⟩
  have hio:pS st ws ks[j]=decide (n.own≠0/\n.own∈ws):=by unfold pS;rw[a3']
  have go:∀ x:Bool,x=pS st ws ks[j]->kX B ro (some ⟨T,0,none⟩) a1 so s (j:Int) (S ks[j]) Q (lfpD (xx B ro (some ⟨T,0,none⟩) a1 s Q)) x I3:=fun x hx=>by
   unfold kX
   cases x with
   | true=>
    rw[mc rfl]
    refine qf (tag:=tag3) 0 st3.sep fun X tag4 I4 st4 r4=>?_
    refine abr (hso.keep (st4 [])) (st4 []).sep Pa.t25 ty9 rfl rfl (Row.cell1 r4 (st4 []).sep) rfl (by rw[mg];omega) y1 fun s' tag5 I5 st5 r5=>?_
    refine⟨s',rfl,?_⟩
    unfold xw
    rw[Pa.inc j z7]
    refine ih (j+1) s' tag5 I5 z7 (st3.trans ((st4 _).trans st5)) ?_
    rw[etk,List.filter_append,LD hx.symm,List.filter_nil,my]
    exact r5
   | false=>
    rw[ma y0]
    unfold xw
    rw[Pa.inc j z7]
    refine ih (j+1) so tag3 I3 z7 st3 ?_
    rw[etk,List.filter_append,LE (by rw[<-hx];simp),List.filter_nil,nk]
    exact hso
  by_cases c0:n.own=0
  .rw[ma (j4 c0)]
   exact go false (by rw[hio];simp[c0])
  .rw[mc c0]
   refine apF hw.keep hwl ?_
   exact go _ (by rw[hio];simp[c0])
def atW{s:ZA}{Q:ZA->Int->AH->Prop}(g:ze ro)(hQ:∀ e tag' I',qd [] ro tag I tag' I'->Q (S ((qq (L s)).getD [])) e I'):pG B ro s I Q:=by
 cases hp:parts (L s)with
 | some ps=>exact amX g hp fun tag' I' st=>hQ 0 tag' I' st
 | none=>
  refine agu fun hs=>?_
  unfold ac6
  refine aiL (tag:=tag) 0 g hs (fun h tag1 I1 st1=>?_) fun ps' h=>by rw[hp]at h;cases h
  rw[mc (by rfl)]
  have:=hQ 20 tag1 I1 st1
  unfold qq at this
  rw[hp]at this
  exact this
end Zt
namespace SL
open Go
variable{B:ZB}{ro I I':AH}{tag tag':Nat->Nat}
variable{I0:AH}{b r:Nat}{s:Sl}{e:TypeId}
def prn(I0 I:AH):AH:=fun b=>match I b with
 | some o=>if o.isCells=true\/(I0 b).isSome=true then some o else none
 | none=>none
def asr(I0 I:AH):HLe (prn I0 I) I:=fun b o h=>by
 unfold prn at h
 split at h
 .rename_i x e
  split at h
  .cases h;exact e
  .cases h
 .cases h
def anE{c:Array Value}{fz:Nat×Nat}(h:I b=some (.cells c e fz)):prn I0 I b=some (.cells c e fz):=by
 unfold prn;rw[h];simp[Obj.isCells]
def am0{o o0:Obj}(h0:I0 b=some o0)(h:I b=some o):prn I0 I b=some o:=by
 unfold prn;rw[h,h0];simp
def awk{o:Obj}(h:prn I0 I b=some o)(hc:o.isCells=false):∃ o',I0 b=some o':=by
 unfold prn at h
 split at h
 .split at h
  .rename_i hx
   cases h
   rw[hc]at hx
   rcases hx with hx | hx
   .cases hx
   .exact LU.1 hx
  .cases h
 .cases h
def Row.prn{l:List Value}(h:Row tag I r e s l):Row tag (prn I0 I) r e s l:=by
 rcases h with h | ⟨b,cs,ha,ht,hs,hx⟩
 .exact .inl h
 .exact .inr ⟨b,cs,ha,ht,anE hs,hx⟩
def ql.prn{w:Nat}{l:List (List Value)}(h:ql tag I r e w s l):ql tag (prn I0 I) r e w s l:=by
 rcases h with h | ⟨b,cs,ha,ht,hs,hx⟩
 .exact .inl h
 .exact .inr ⟨b,cs,ha,ht,anE hs,hx⟩
def StepS.prn{C:List Nat}(h:StepS C ro tag I tag' I'):StepS C ro tag I tag' (prn I I'):=by
 obtain⟨R,h1,h2⟩:=h
 refine⟨R,h1,fun b o hb hn=>?_,fun b o hb=>?_,fun b o hb=>h2.sep b o (asr _ _ b o hb)⟩
 .obtain⟨t,e⟩:=h2.keep b o hb hn
  exact⟨t,am0 hb e⟩
 .obtain⟨t,o',e⟩:=h2.old b o hb
  exact⟨t,o',am0 hb e⟩
end SL
namespace Zt
open Go SL G Pa
variable{B:ZB}{ro I I':AH}{tag tag':Nat->Nat}
variable{T b r:Nat}{st:St}{home p:Str}{a:St×List Str}
def wa.prn{I0:AH}{M:Nat}{bs:List Nat}{o0:Obj}(h:wa tag I r T M bs st)(h0:I0 M=some o0):wa tag (SL.prn I0 I) r T M bs st:=by
 refine⟨h.keys,h.len,h.nd,h.cell.prn,?_,fun i b p hb hp=>?_⟩
 .obtain⟨es,c,hb,hx⟩:=h.map.obj
  exact⟨h.map.tg,es,c,am0 h0 hb,hx⟩
 .obtain⟨s,h1,h2⟩:=h.nodes i b p hb hp
  exact⟨s,h1.prn,h2.prn⟩
def zX(home:Str)(a:St×List Str)(p:Str):St×List Str:=
 if(qq p).getD []=home/\(wo a.1 p (-1)).2=0 then((wo a.1 p (-1)).1,a.2++[p])else a
def kd(st:St)(ws:List Int):List Str:=(((srt st).map (·.1)).filter fun k=>pS st ws k).reverse
def xe(st:St)(home:Str)(ws:List Int):St×List Str:=(kd st ws).foldl (zX home) (st,[])
def alm(p:Str):List Value:=afO (2,p)
def ass(h:qQ b a.1)(hb:b<=4398046511103):qQ (b+1) (zX home a p).1:=by
 unfold zX
 split
 .exact akW h hb
 .exact h.mono z7
def ast:(zX home a p).2.length<=a.2.length+1:=by
 unfold zX
 split
 .simp
 .simp
def ama:∀ (ks:List Str) {a:St×List Str} {b:Nat},qQ b a.1->b+ks.length<=4398046511103->qQ (b+ks.length) (ks.foldl (zX home) a).1/\(ks.foldl (zX home) a).2.length<=a.2.length+ks.length:=by
 intro ks
 induction ks with
 | nil=>intro a b h _;exact⟨h,mR _⟩
 | cons k ks ih=>
  intro a b h hb
  simp only[mz]at hb
  obtain⟨h1,h2⟩:=ih (a:=zX home a k) (ass h z7) z7
  have:=ast (home:=home) (a:=a) (p:=k)
  simp only[mY,mz]
  exact⟨by rw[show b+(ks.length+1)=b+1+ks.length by omega];exact h1,z7⟩
def awl(zs:List ByteArray):(Back.upto (Back.bk zs) zs.length).map (·.2)=zs.reverse:=by
 apply Pm
 .simp[Back.upto]
 .intro i h1 h2
  simp at h2
  have:zs.length - 1 - i<zs.length:=by omega
  simp[Back.upto,Back.bk,md this]
def atX{q q2:Nat}{ws:List Int}{a2:Sl}{Q:Sl->AH->Prop}(g:ze ro)(hr:r<64)(hr0:r≠0)(hr6:r≠6)(hq:q<64)(hq2:q2<64)(hqs:q∉[0,6,r])(hq2s:q2∉[0,6,r,q])
  (h:wd tag I r T st) (hi:qQ b st) (hb:b<=1073741824) (hw:SL.qJ ro (fun _=>none) a2 (ws.map vI)) (hwl:ws.length<=4611686018427387903)
  (hQ:∀ es tag' I',StepS [0,r,q,q2] ro tag I tag' I'->wd tag' I' r T (xe st home ws).1->ql tag' I' (q2+256) 336 2 es ((xe st home ws).2.map alm)->Q es I'):
  abj B ro (some ⟨T,0,none⟩) (S home) a2 I Q:=by
 refine amZ fun hs=>?_
 simp only[mp,nj,or_false,not_or]at hqs hq2s
 have hlen:=hi.len
 unfold ao0
 refine qf (tag:=tag) q2 hs fun b3 tag1 I1 st1 r3=>?_
 refine qf (tag:=tag1) (q2+64) (st1 []).sep fun b4 tag2 I2 st2 r4=>?_
 refine qf (tag:=tag2) (q2+128) (st2 []).sep fun b7 tag3 I3 st3 r7=>?_
 have r3':=(r3.keep (st2 [])).keep (st3 [])
 refine⟨some ⟨T,0,none⟩,Row.cell1 r3' (st3 []).sep,?_⟩
 have hT3:=((h.keep (st1 [])).keep (st2 [])).keep (st3 [])
 have hsm:=hi.inv.small
 refine atV (tag:=tag3) (q:=q) hr hr0 hq z7 z7 hT3 (fun p hp=>(hsm p hp).1) z7 hw hwl fun s tag4 I4 ks st4 hpm hsr rs=>?_
 have st04:StepS [0,r,q,q2] ro tag I tag4 I4:=(((st1 []).s y0).trans ((st2 []).s y0)).trans (((st3 []).s y0).trans (st4.mono y0))
 refine qf (tag:=tag4) (q+64) st4.sep fun bb tag5 I5 st5 rb=>?_
 obtain⟨M,bs,hA⟩:=(hT3.keepS st4 j2 j2).keep (st5 [])
 have r35:=(r3'.keepS st4 j2).keep (st5 [])
 have r45:=((r4.keep (st3 [])).keepS st4 j2).keep (st5 [])
 have r75:=(r7.keepS st4 j2).keep (st5 [])
 have rs5:=rs.keep (st5 [])
 have eks:=aiD hi.inv.keys hpm hsr
 rw[eks]at rs5
 have hK:kd st ws=((((srt st).map (·.1)).filter fun k=>pS st ws k)).reverse:=rfl
 generalize hks:(((srt st).map (·.1)).filter fun k=>pS st ws k)=own at rs5 hK
 have hol:own.length<=st.length:=by
  rw[<-hks]
  refine LA (List.length_filter_le _ _) ?_
  rw[mg,(zZ st).length_eq]
  exact mR _
 obtain⟨sw,hsw⟩:∃ sw:List (Int×ZA)->St×List Str,sw=fun pre=>(pre.map fun x=>L x.2).foldl (zX home) (st,[]):=⟨_,rfl⟩
 have hM5:∃ oM,I5 M=some oM:=by
  obtain⟨es,c,hb,_⟩:=hA.map.obj
  exact⟨_,hb⟩
 obtain⟨oM,hM5⟩:=hM5
 let J:List (Int×ZA)->AH->Prop:=fun pre I'=> ∃tag' bs' es,StepS [0,r,q2] ro tag5 I5 tag' I'/\wa tag' I' r T M bs' (sw pre).1/\ql tag' I' (q2+256) 336 2 es ((sw pre).2.map alm)/\
  Row tag' I' (q2+128) 258 ⟨some ⟨b7,0,none⟩,1,1⟩ [Sl.v es]/\Row tag' I' q2 61 ⟨some ⟨b3,0,none⟩,1,1⟩ [.pointer (some ⟨T,0,none⟩)]/\Row tag' I' (q2+64) 9 ⟨some ⟨b4,0,none⟩,1,1⟩ [.string (S home)]/\
  ∀b o,I' b=some o->o.isCells=false->∃ o',I5 b=some o'
 have hwd:∀ pre:List (Int×ZA),pre.length<=own.length->qQ (b+pre.length) (sw pre).1/\(sw pre).2.length<=pre.length:=fun pre hp=>by
  have:=ama (home:=home) (pre.map fun x=>L x.2) (a:=(st,[])) hi (by rw[mg];omega)
  rw[hsw]
  simpa using this
 refine⟨own.map S,J,?_,by rw[mg];omega,⟨tag5,bs,⟨none,0,0⟩,StepS.refl (st5 []).sep,by rw[hsw];exact hA,ql.nil _ _ _ |> (by rw[hsw];exact ·),r75,r35,r45,fun b o hb _=>⟨o,hb⟩⟩,?_,?_,?_,?_⟩
 .rcases rs5 with⟨e1,e2⟩ | ⟨bz,cs,e1,e2,e3,e4,e5,e6,e7⟩
  .exact .inl ⟨e1,by rw[List.map_eq_nil_iff]at e2 ⊢;exact e2⟩
  .refine .inr ⟨bz,s.cap,_,?_,e3,?_,?_⟩
   .rw[mg]at e4⊢
    cases s;simp only at e1 e4;rw[e1,e4]
   .rintro pre I' ⟨tg,bs',es,k,_⟩
    obtain⟨R,k1,k2⟩:=k
    exact(k2.keep bz _ e3 (fun hm=>by have:=k1 _ hm;rw[e2]at this;simp at this;omega)).2
   .intro j hj
    rw[mg]at hj
    have:=e7 j (by rw[mg];exact hj)
    simp only[zF,Option.isSome_none,Bool.false_eq_true,if_false]
    rw[this]
    simp[md hj,Pa.vS]
 .rintro pre I' ⟨tg,bs',es,_,_,_,_,_,_,hn⟩
  exact hn
 .rcases rb with⟨e1,_⟩ | ⟨bz,cs,e1,e2,e3,e4,e5,e6,e7⟩
  .cases e1
  .cases e1
   refine⟨_,e3,?_,?_⟩
   .have:=e7 0 y0
    simp only[zF,Option.isSome_none,Bool.false_eq_true,if_false]
    rw[this];try rfl
   .rintro pre I' ⟨tg,bs',es,k,_⟩
    obtain⟨R,k1,k2⟩:=k
    exact(k2.keep _ _ e3 (fun hm=>by have:=k1 _ hm;rw[e2]at this;simp at this;omega)).2
 .-- a round
  rintro pre x I6 ⟨tag6,bs6,es6,st6,hA6,rE6,r76,r36,r46,hn6⟩ hlen6
  rw[mg]at hlen6
  obtain⟨hi6,hl6⟩:=hwd pre z7
  obtain⟨p,hp⟩:∃ p,x.2=S p:=⟨L x.2,(S_L _).symm⟩
  have hsw':sw (pre++[x])=zX home (sw pre) p:=by
   rw[hsw]
   simp[hp]
  have hlen6':=hi6.len
  have done:∀ tag7 I7 bs7 es7,StepS [0,r,q2] ro tag6 I6 tag7 I7->wa tag7 I7 r T M bs7 (sw (pre++[x])).1->ql tag7 I7 (q2+256) 336 2 es7 ((sw (pre++[x])).2.map alm)->
    Row tag7 I7 (q2+128) 258 ⟨some ⟨b7,0,none⟩,1,1⟩ [Sl.v es7]->Row tag7 I7 q2 61 ⟨some ⟨b3,0,none⟩,1,1⟩ [.pointer (some ⟨T,0,none⟩)]->Row tag7 I7 (q2+64) 9 ⟨some ⟨b4,0,none⟩,1,1⟩ [.string (S home)]->
    (∀b o,I6 b=some o->∃ o',I7 b=some o')/\∃ I8,HLe I8 I7/\J (pre++[x]) I8:=fun tag7 I7 bs7 es7 st7 h1 h2 h3 h4 h5=>by
   refine⟨fun b o hb=>?_,SL.prn I5 I7,asr _ _,tag7,bs7,es7,(st6.trans st7).prn,h1.prn hM5,h2.prn,h3.prn,h4.prn,h5.prn,fun b o hb hc=>awk hb hc⟩
   obtain⟨R,_,k⟩:=st7
   exact(k.old b o hb).2
  unfold rnd
  rw[hp]
  refine atW (tag:=tag6) g fun e tag7 I7 st7=>?_
  refine⟨S home,Row.cell1 (r46.keep st7) st7.sep,?_⟩
  rw[L_S]
  by_cases c:(qq p).getD []=home
  .rw[mc (by rw[c])]
   refine⟨some ⟨T,0,none⟩,Row.cell1 (r36.keep st7) st7.sep,?_⟩
   refine al1 (tag:=tag7) g hr hr6 hr0 (hA6.keep st7) (by rw[L_S];exact asl hi6.inv) fun tag8 I8 bs8 st8 hA8=>?_
   rw[L_S]at hA8⊢
   have k78:StepS [0,r,q2] ro tag6 I6 tag8 I8:=(st7.s y0).trans (st8.s y0)
   have kr:∀ {x:Nat},x%64≠r->True:=fun _=>trivial
   have r38:=(r36.keep st7).keepC st8 z7
   have r48:=(r46.keep st7).keepC st8 z7
   have r78:=(r76.keep st7).keepC st8 z7
   have rE8:=(rE6.keep st7).keepC st8 z7
   unfold amY
   by_cases ce:(wo (sw pre).1 p (-1)).2=0
   .rw[mc (j4 ce)]
    have hsw2:zX home (sw pre) p=((wo (sw pre).1 p (-1)).1,(sw pre).2++[p]):=by unfold zX;rw[mc ⟨c,ce⟩]
    rw[hsw2]at hsw'
    refine⟨es6,Row.cell1 r78 st8.sep,?_⟩
    refine qf (tag:=tag8) (q2+320) st8.sep fun z tag9 I9 st9 r9=>?_
    refine jn (l2:=[alm p]) (rE8.keep (st9 [])) (st9 []).sep (Row.readW1 r9 (st9 []).sep rfl y1) (t:=258) j0 acA rfl (by simp[alm,afO,qg]) j2 y1 fun es' taga Ia sta ra=>?_
    have sta':=sta [q2+256] (.inr y0)
    refine⟨es',rfl,?_⟩
    have r7a:=(r78.keep (st9 [])).keep sta'
    refine ag5 r7a sta'.sep y0 (by simp[qg,Sl.v]) fun Ib stb rb7 _=>?_
    have kb:StepS [0,r,q2] ro tag6 I6 taga Ib:=k78.trans (((st9 []).s y0).trans ((sta'.s j2).trans (stb.s j2)))
    refine done taga Ib bs8 es' kb ?_ ?_ rb7 ?_ ?_
    .rw[hsw']
     exact((hA8.keep (st9 [])).keep sta' j2).keep stb j2
    .rw[hsw',my]
     exact ql.keep ra stb
    .exact((r38.keep (st9 [])).keep sta').keep stb
    .exact((r48.keep (st9 [])).keep sta').keep stb
   .rw[ma (j4 ce)]
    have hsw2:zX home (sw pre) p=sw pre:=by unfold zX;rw[ma (fun h=>ce h.2)]
    rw[hsw2]at hsw'
    have hre:(wo (sw pre).1 p (-1)).1=(sw pre).1:=by
     rcases ac9 (sw pre).1 p (-1)with⟨e,_,h2⟩ | ⟨n,u,h2,_⟩
     .rw[h2]
     .rw[h2]at ce;exact mt rfl ce
    rw[hre]at hA8
    exact done tag8 I8 bs8 es6 k78 (by rw[hsw'];exact hA8) (by rw[hsw'];exact rE8) r78 r38 r48
  .rw[ma (fun h=>c (abL.1 h))]
   unfold amY
   rw[ma y0]
   have hsw2:zX home (sw pre) p=sw pre:=by unfold zX;rw[ma (fun h=>c h.1)]
   rw[hsw2]at hsw'
   exact done tag7 I7 bs6 es6 (st7.s y0) (by rw[hsw'];exact hA6.keep st7) (by rw[hsw'];exact rE6.keep st7) (r76.keep st7) (r36.keep st7) (r46.keep st7)
 .rintro I' ⟨tag6,bs6,es6,st6,hA6,rE6,r76,r36,r46,hn6⟩
  refine⟨es6,Row.cell1 r76 st6.sep,?_⟩
  have hE:sw (Back.upto (Back.bk (own.map S)) (own.map S).length)=xe st home ws:=by
   rw[hsw]
   show List.foldl _ _ (List.map (fun x:Int×ByteArray=>L x.2) _)=_
   rw[show(fun x:Int×ByteArray=>L x.2)=L ∘ (fun x=>x.2)from rfl,<-Lh,awl]
   unfold xe
   rw[hK,List.map_reverse,Lh]
   have:(L ∘ S)=id:=by funext l;rfl
   rw[this,List.map_id]
  rw[hE]at hA6 rE6
  exact hQ es6 tag6 I' (st04.trans (((st5 []).s y0).trans (st6.mono y0))) ⟨M,bs6,hA6⟩ rE6
end Zt
namespace Zt
open Go SL Pa Wi
structure yf where
 nonce:Int
 lease:Int
 beats:Int
 req:Int
 reply:Str
structure xL where
 last:Int
 live:List (Int×yf)
abbrev Tbl:=List (Str×xL)
def okN(n:Int):Bool:=decide (1<=n) && decide (n<=4611686018427387903)
def qP(t:Tbl)(home:Str):xL:=(qj t home).getD ⟨0,[]⟩
def ag6(h:xL)(nonce:Int):Option (Int×yf):=h.live.find? fun p=>decide (p.2.nonce=nonce)
def aow(h:xL)(nonce lease:Int):xL:=⟨h.last+1,wR h.live (h.last+1) ⟨nonce,lease,0,0,[]⟩⟩
def wX(t:Tbl)(home:Str)(nonce lease:Int):Tbl×Int×Int:=
 if wb home=false then(t,0,82)
 else if okN nonce=false then(t,0,10)
 else if lease<1\/1048576<lease then(t,0,153)
 else match ag6 (qP t home) nonce with
  | some p=>(t,p.1,0)
  | none=>if 64<=(qP t home).live.length\/(qP t home).last=4611686018427387903 then(t,0,61)
   else(wR t home (aow (qP t home) nonce lease),(qP t home).last+1,0)
def xM(t:Tbl)(k:Str×Int):Int×Option yf:=match qj t k.1 with
 | none=>(150,none)
 | some h=>if k.2<1\/h.last<k.2 then(150,none)else match qj h.live k.2 with
  | none=>(151,none)
  | some s=>(0,some s)
def aet(t:Tbl)(k:Str×Int)(s:yf):Tbl:=match qj t k.1 with
 | none=>t
 | some h=>wR t k.1 {h with live:=wR h.live k.2 s}
def adL(t:Tbl)(k:Str×Int):Tbl:=match qj t k.1 with
 | none=>t
 | some h=>wR t k.1 {h with live:=jt h.live k.2}
def zu(t:Tbl)(k:Str×Int)(req:Int):Str×Bool×Int:=match xM t k with
 | (_,some s)=>if okN req=false then([],false,10)else if req=s.req then(s.reply,true,0)else if req<s.req then([],false,152)else([],false,0)
 | (e,none)=>([],false,e)
def acV(t:Tbl)(k:Str×Int)(req:Int)(b:Str):Tbl×Int:=match xM t k with
 | (_,some s)=>if okN req=false then(t,10)else if req<=s.req then(t,152)else(aet t k {s with req:=req,reply:=b},0)
 | (e,none)=>(t,e)
def aaL(t:Tbl)(k:Str×Int):Tbl×Int:=match xM t k with
 | (_,some s)=>(aet t k {s with beats:=s.beats+1},0)
 | (e,none)=>(t,e)
def vu(t:Tbl)(k:Str×Int)(beats:Int):Tbl×Bool:=match xM t k with
 | (_,some s)=>if s.beats=beats then(adL t k,true)else(t,false)
 | (_,none)=>(t,false)
def yz(t:Tbl)(k:Str×Int):Tbl×Int:=match xM t k with
 | (_,some _)=>(adL t k,0)
 | (e,none)=>(t,e)
abbrev kN:=Str×Int
structure xR where
 events:List (Int×Int×Str)
 acked:Int
 last:Int
 marks:List kN
abbrev Hub:=List ((Str×Int)×xR)
def abo(k:Str×Int)(m:kN):Int:=
 if m.2≠1/\m.2≠2 then 160
 else if parts m.1=none then 20
 else if(qq m.1).getD []≠k.1\/wb k.1=false\/k.2<1\/4611686018427387903<k.2 then 82 else 0
def ao2{p h:Str}(hn:wb h=true)(e:(qq p).getD []=h):qq p=some h:=by
 cases hp:qq p with
 | none=>rw[hp]at e;subst e;exact mt hn y1
 | some x=>rw[hp]at e;exact mj some e
def akY{k:Str×Int}{m:kN}(h:abo k m=0):qq m.1=some k.1/\wb k.1=true/\1<=k.2/\k.2<=4611686018427387903:=by
 unfold abo at h
 split at h
 .cases h
 .split at h
  .cases h
  .split at h
   .cases h
   .rename_i c
    simp only[not_or,Ld,Bool.not_eq_false]at c
    exact⟨ao2 c.2.1 c.1,c.2.1,z7,z7⟩
def zV(h:Hub)(k:Str×Int):xR:=(qj h k).getD ⟨[],0,0,[]⟩
def atY(d:xR)(m:kN):xR:={d with marks:=if m∈d.marks then d.marks else d.marks++[m]}
def xH(h:Hub)(k:Str×Int)(m:kN):Hub×Int:=
 if abo k m≠0 then(h,abo k m)
 else if m∉(zV h k).marks/\32<=(zV h k).marks.length+(zV h k).events.length then(h,61)
 else(wR h k (atY (zV h k) m),0)
def am1(d:xR)(kind:Int)(p:Str):xR:={d with last:=d.last+1,events:=d.events++[(d.last+1,kind,p)]}
def uR(m:kN)(kind:Int)(d:xR):xR:=if m∈d.marks then am1 {d with marks:=d.marks.erase m} kind m.1 else d
def yS(h:Hub)(m:kN)(kind:Int):Hub:=h.map fun p=>(p.1,uR m kind p.2)
def aa8(h:Hub)(e:Int×Str):Hub:=match qw e.2 with
 | none=>h
 | some up=>if e.1<1\/3<e.1 then h else
  let h1:=yS h (e.2,1) e.1
  let h2:=if e.1≠3 then yS h1 (up,2) 4 else h1
  if e.1=2 then yS h2 (e.2,2) 4 else h2
def yn(h:Hub)(l:List (Int×Str)):Hub:=l.foldl aa8 h
def ja(h:Hub)(k:Str×Int):List (Int×Int×Str):=match qj h k with
 | some d=>d.events
 | none=>[]
def atZ(d:xR)(n:Int):xR:={d with acked:=max d.acked n,events:=d.events.filter fun e=> !decide (e.1<=n)}
def yg(h:Hub)(k:Str×Int)(n:Int):Hub×Int:=match qj h k with
 | none=>(h,if n<0\/0<n then 161 else 0)
 | some d=>if n<0\/d.last<n then(h,161)else(wR h k (atZ d n),0)
structure Sto where
 epoch:Int
 members:List Int
 tree:St
 tbl:Tbl
 hub:Hub
structure wM where
 kind:Int
 home:Str
 session:Int
 req:Int
 nonce:Int
 lease:Int
 beats:Int
 ack:Int
 ops:List MOp
 path:Str
 watch:Bool
 epoch:Int
 members:List Int
structure Rep where
 code:Int
 session:Int
 results:List (Str×Int)
 bad:Int
 data:Str
 ver:Int
 ctr:Int
 own:Int
 kids:Int
 names:List Str
 events:List (Int×Int×Str)
 epoch:Int
def Rep.zero:Rep:=⟨0,0,[],0,[],0,0,0,0,[],[],0⟩
def wN(e:Int):Rep:={Rep.zero with code:=e}
def amb:List Int->Option Int->Bool
 | [],_=>true
 | m::l,b=>decide (0<=m) && decide (m<=31) && (match b with | none=>true | some x=>decide (x<m)) && amb l (some m)
def aa9(l:List Int):Bool:=amb l none && decide (1<=l.length) && decide (l.length<=7)
def Sto.new(members:List Int):Sto:=⟨0,members,St.new,[],[]⟩
def acp(s:Sto)(k:Str×Int):Sto:=
 {s with hub:=yn (jt s.hub k) ((xe s.tree k.1 [k.2]).2.map fun p=>(2,p)),tree:=(xe s.tree k.1 [k.2]).1}
def abS(s:Sto)(c:wM):Sto×Rep:=
 if(wX s.tbl c.home c.nonce c.lease).2.2≠0 then(s,wN (wX s.tbl c.home c.nonce c.lease).2.2)
 else({s with tbl:=(wX s.tbl c.home c.nonce c.lease).1,tree:=if wb c.home=true/\(s.tree.lookup (47::c.home)).isNone=true then(we s.tree (47::c.home) [] 0 false).1 else s.tree},
  {Rep.zero with session:=(wX s.tbl c.home c.nonce c.lease).2.1})
def aaM(s:Sto)(c:wM):Sto×Rep:=
 if aa9 c.members=false then(s,wN 190)
 else if c.epoch≠s.epoch then(s,wN 191)
 else({s with epoch:=s.epoch+1,members:=c.members},{Rep.zero with epoch:=s.epoch+1})
def atE(c:wM):Int:=if parts c.path=none then 20 else if(qq c.path).getD []≠c.home then 82 else 0
def aln{c:wM}(h:¬ atE c≠0)(hn:wb c.home=true):qq c.path=some c.home:=by
 unfold atE at h
 split at h
 .exact mt (by decide:(20:Int)≠0) h
 .split at h
  .exact mt (by decide:(82:Int)≠0) h
  .rename_i d;exact ao2 hn (j4 d)
def wM.key(c:wM):Str×Int:=(c.home,c.session)
def acq(s:Sto)(c:wM):Sto×Rep:=
 if atE c≠0 then(s,wN (atE c))
 else if c.watch=true/\(xH s.hub c.key (c.path,1)).2≠0 then(s,wN (xH s.hub c.key (c.path,1)).2)
 else({s with hub:=if c.watch=true then(xH s.hub c.key (c.path,1)).1 else s.hub},
  match s.tree.lookup c.path with
  | none=>wN 70
  | some n=>{Rep.zero with data:=n.data,ver:=n.ver,ctr:=n.ctr,own:=n.own,kids:=n.kids})
def af5(st:St)(p:Str):List Str:=xY ((srt st).map (·.1)) p
def uS(s:Sto)(c:wM):Sto×Rep:=
 if atE c≠0 then(s,wN (atE c))
 else match s.tree.lookup c.path with
  | none=>(s,wN 70)
  | some _=>
   if c.watch=true/\(xH s.hub c.key (c.path,2)).2≠0 then(s,wN (xH s.hub c.key (c.path,2)).2)
   else({s with hub:=if c.watch=true then(xH s.hub c.key (c.path,2)).1 else s.hub},{Rep.zero with names:=af5 s.tree c.path})
def aeu(s:Sto)(c:wM):Sto×Rep:=
 let d:=qR s.tree c.home c.session 64 8192 c.ops
 ({s with tree:=d.st,hub:=yn s.hub d.eff},{Rep.zero with code:=d.err,results:=d.res,bad:=d.bad})
def doS(s:Sto)(c:wM):Sto×Rep:=
 if c.kind=2 then({s with tbl:=(aaL s.tbl c.key).1},Rep.zero)
 else if c.kind=5 then aeu s c
 else if c.kind=6 then acq s c
 else if c.kind=7 then uS s c
 else(s,Rep.zero)
def vv(x:Rep):Prop:=x.results.length<=16/\x.names.length<=4096/\x.events.length<=32/\ -1<=x.bad/\x.bad<4611686018427387903/\qr x.code=true/\qr x.session=true/\qr x.ver=true/\qr x.ctr=true/\qr x.own=true/\qr x.kids=true/\qr x.epoch=true/\
 (∀y∈x.results,qr y.2=true)/\∀ y∈x.events,qr y.1=true/\qr y.2.1=true
instance (x:Rep):Decidable (vv x):=by unfold vv;infer_instance
def yA(l:List (Str×Int)):Str:=l.flatMap fun y=>vR y.1++qH y.2.toNat
def jV(l:List (Int×Int×Str)):Str:=l.flatMap fun y=>qH y.1.toNat++(qH y.2.1.toNat++vR y.2.2)
def afp(x:Rep):Str:=qH x.code.toNat++(qH x.session.toNat++(qH x.results.length++(yA x.results++(qH (x.bad+1).toNat++(vR x.data++(qH x.ver.toNat++(qH x.ctr.toNat++(qH x.own.toNat++(qH x.kids.toNat++(qH x.names.length++(x.names.flatMap vR++(qH x.events.length++(jV x.events++qH x.epoch.toNat)))))))))))))
def vF(x:Rep):Option Str:=if vv x then some (afp x)else none
def gres:Nat->Rd->List (Str×Int)×Rd
 | 0,r=>([],r)
 | n+1,r=>(((rblob r).1,((rnum (rblob r).2).1:Int))::(gres n (rnum (rblob r).2).2).1,(gres n (rnum (rblob r).2).2).2)
def gnames:Nat->Rd->List Str×Rd
 | 0,r=>([],r)
 | n+1,r=>((rblob r).1::(gnames n (rblob r).2).1,(gnames n (rblob r).2).2)
def aev:Nat->Rd->List (Int×Int×Str)×Rd
 | 0,r=>([],r)
 | n+1,r=>let a:=rnum r;let b:=rnum a.2;let c:=rblob b.2
  (((a.1:Int),(b.1:Int),c.1)::(aev n c.2).1,(aev n c.2).2)
structure RR where
 x:Rep
 nr:Nat
 nn:Nat
 ne:Nat
 r:Rd
def zP(b:Str):RR:=
 let a1:=rnum ⟨b,0⟩
 let a2:=rnum a1.2
 let a3:=rnum a2.2
 let a4:=gres (min a3.1 16) a3.2
 let a5:=rnum a4.2
 let a6:=rblob a5.2
 let a7:=rnum a6.2
 let a8:=rnum a7.2
 let a9:=rnum a8.2
 let b0:=rnum a9.2
 let b1:=rnum b0.2
 let b2:=gnames (min b1.1 4096) b1.2
 let b3:=rnum b2.2
 let b4:=aev (min b3.1 32) b3.2
 let b5:=rnum b4.2
 ⟨⟨a1.1,a2.1,a4.1,(a5.1:Int) - 1,a6.1,a7.1,a8.1,a9.1,b0.1,b2.1,b4.1,b5.1⟩,a3.1,b1.1,b3.1,b5.2⟩
def uT(b:Str):Option Rep:=
 if(zP b).r.err≠0\/0<(zP b).r.rest.length\/16<(zP b).nr\/4096<(zP b).nn\/32<(zP b).ne then none else some (zP b).x
def aaN(s:Sto)(c:wM):Sto×Rep:=
 if(zu s.tbl c.key c.req).2.2≠0 then(s,wN (zu s.tbl c.key c.req).2.2)
 else if(zu s.tbl c.key c.req).2.1=true then(s,{(uT (zu s.tbl c.key c.req).1).getD Rep.zero with events:=ja s.hub c.key})
 else
  let s1:Sto:={s with hub:=(yg s.hub c.key c.ack).1}
  if c.kind=3 then(acp {s1 with tbl:=(yz s1.tbl c.key).1} c.key,Rep.zero)
  else
   let d:=doS s1 c
   ({d.1 with tbl:=(acV d.1.tbl c.key c.req ((vF d.2).getD [])).1},{d.2 with events:=ja d.1.hub c.key})
def vj(s:Sto)(c:wM):Sto×Rep:=
 if c.kind=1 then abS s c
 else if c.kind=4 then
  if(vu s.tbl c.key c.beats).2=true then(acp {s with tbl:=(vu s.tbl c.key c.beats).1} c.key,Rep.zero)else(s,wN 150)
 else if c.kind=8 then aaM s c
 else if 2<=c.kind/\c.kind<=7 then aaN s c
 else(s,wN 170)
def aeU{b:Nat}{st:St}{p:Str}{v:Int}(h:qQ b st)(hb:b<=4398046511103):qQ b (wo st p v).1:=by
 have hi:=al4 (p:=p) (v:=v) h.inv (by have:=h.len;omega)
 have hlen:=al3 st p v
 rcases ac9 st p v with⟨e,_,he⟩ | ⟨n,u,he,hn,hne,hu,hk⟩
 .rw[he];exact h
 .rw[he]at hi hlen⊢
  simp only at hi hlen⊢
  have hnd:((wH st u pB).map (·.1)).Nodup:=by rw[pf];exact h.inv.keys
  have hl:∀ k m,(pd (wH st u pB) p).lookup k=some m->∃ m',st.lookup k=some m'/\(m=m'\/m=pB m'):=fun k m hk=>by
   rw[uN hnd]at hk
   split at hk
   .cases hk
   .rw[wu]at hk
    split at hk
    .obtain⟨m',h1,h2⟩:=nm.1 hk
     exact⟨m',h1,.inr h2.symm⟩
    .exact⟨m,hk,.inl rfl⟩
  refine⟨hi,fun k m hk=>?_,fun k m hk=>?_,fun m hk=>?_,by have:=h.len;omega⟩
  .obtain⟨m',h1,h2⟩:=hl k m hk
   have:=h.ver k m' h1
   rcases h2 with rfl | rfl
   .omega
   .show 0<=m'.ver/\m'.ver<=_;omega
  .obtain⟨m',h1,h2⟩:=hl k m hk
   have:=h.own k m' h1
   rcases h2 with rfl | rfl
   .exact this
   .exact this
  .obtain⟨m',h1,h2⟩:=hl _ m hk
   have:=h.rt m' h1
   rcases h2 with rfl | rfl
   .exact this
   .exact this
def arb{b:Nat}{st:St}{home:Str}{ws:List Int}(h:qQ b st)(hb:b<=4398046511103):qQ b (xe st home ws).1:=by
 have key:∀ (ks:List Str) (a:St×List Str),qQ b a.1->qQ b (ks.foldl (zX home) a).1:=by
  intro ks
  induction ks with
  | nil=>intro a h;exact h
  | cons k ks ih=>
   intro a h
   rw[mY]
   refine ih _ ?_
   unfold zX
   split
   .exact aeU h hb
   .exact h
 exact key _ _ h
structure ahY(b:Nat)(s:yf):Prop where
 nonce:okN s.nonce=true
 lease:1<=s.lease/\s.lease<=1048576
 beats:0<=s.beats/\s.beats<=b
 req:0<=s.req/\s.req<=4611686018427387903
 reply:s.reply.length<=1048576
structure aeV(b:Nat)(h:xL):Prop where
 last:0<=h.last/\h.last<=b
 keys:(h.live.map (·.1)).Nodup
 rng:∀ p∈h.live,1<=p.1/\p.1<=h.last
 non:(h.live.map (·.2.nonce)).Nodup
 len:h.live.length<=64
 ok:∀ p∈h.live,ahY b p.2
structure aaO(b:Nat)(k:Str×Int)(d:xR):Prop where
 room:d.events.length+d.marks.length<=32
 last:0<=d.last/\d.last+d.marks.length<=b
 evs:∀ e∈d.events,(1<=e.1/\e.1<=d.last)/\(1<=e.2.1/\e.2.1<=4)/\e.2.2.length<=128
 ack:0<=d.acked/\d.acked<=d.last
 nd:d.marks.Nodup
 mks:∀ m∈d.marks,abo k m=0
structure vV(b:Nat)(t:Tbl):Prop where
 keys:(t.map (·.1)).Nodup
 ok:∀ p∈t,wb p.1=true/\aeV b p.2
 len:t.length<=b
structure ku(b:Nat)(h:Hub):Prop where
 keys:(h.map (·.1)).Nodup
 ok:∀ p∈h,aaO b p.1 p.2
 len:h.length<=b
structure wU(b:Nat)(s:Sto):Prop where
 tree:qQ (20*b) s.tree
 tbl:vV b s.tbl
 hub:ku b s.hub
 ep:0<=s.epoch/\s.epoch<=b
 mem:s.members.length<=7
def ahY.mono{b c:Nat}{s:yf}(h:ahY b s)(hc:b<=c):ahY c s:=⟨h.nonce,h.lease,by have:=h.beats;omega,h.req,h.reply⟩
def aeV.mono{b c:Nat}{h:xL}(k:aeV b h)(hc:b<=c):aeV c h:=⟨by have:=k.last;omega,k.keys,k.rng,k.non,k.len,fun p hp=>(k.ok p hp).mono hc⟩
def aaO.mono{b c:Nat}{k:Str×Int}{d:xR}(h:aaO b k d)(hc:b<=c):aaO c k d:=⟨h.room,by have:=h.last;omega,h.evs,h.ack,h.nd,h.mks⟩
def vV.mono{b c:Nat}{t:Tbl}(h:vV b t)(hc:b<=c):vV c t:=⟨h.keys,fun p hp=>⟨(h.ok p hp).1,(h.ok p hp).2.mono hc⟩,by have:=h.len;omega⟩
def ku.mono{b c:Nat}{t:Hub}(h:ku b t)(hc:b<=c):ku c t:=⟨h.keys,fun p hp=>(h.ok p hp).mono hc,by have:=h.len;omega⟩
section
variable{κ α:Type}[DecidableEq κ]
def yB{m:List (κ×α)}{k k':κ}{a:α}:qj (wR m k a) k'=if k'=k then some a else qj m k':=by
 induction m with
 | nil=>unfold wR qj qj;rfl
 | cons p m ih=>
  obtain⟨pk,pa⟩:=p
  unfold wR
  by_cases c:k=pk
  .subst c
   rw[mc rfl]
   by_cases e:k'=k
   .subst e;simp[qj]
   .simp[qj,e]
  .rw[ma c]
   unfold qj
   rw[ih]
   by_cases e:k'=pk
   .subst e;rw[mc rfl,mc rfl,ma (Ne.symm c)]
   .rw[ma e,ma e]
def afq{m:List (κ×α)}{k:κ}{a:α}:(wR m k a).map (·.1)=if k∈m.map (·.1)then m.map (·.1)else m.map (·.1)++[k]:=by
 induction m with
 | nil=>simp[wR]
 | cons p m ih=>
  obtain⟨pk,pa⟩:=p
  unfold wR
  by_cases c:k=pk
  .subst c;simp
  .rw[ma c,mF,ih,mF]
   by_cases e:k∈m.map (·.1)
   .rw[mc e,mc (by simp only[mp];exact .inr e)]
   .rw[ma e,ma (by simp only[mp,not_or];exact⟨c,e⟩)];rfl
def aiO{m:List (κ×α)}{k:κ}{a:α}(h:(m.map (·.1)).Nodup):((wR m k a).map (·.1)).Nodup:=by
 rw[afq]
 split
 .exact h
 .rename_i e
  rw[List.nodup_append]
  exact⟨h,y0,fun x hx y hy he=>e (by simp at hy;rw[<-hy,<-he];exact hx)⟩
def aiP{m:List (κ×α)}{k:κ}{a:α}{p:κ×α}(h:p∈wR m k a):p=(k,a)\/(p∈m):=by
 induction m with
 | nil=>simp[wR]at h;exact .inl h
 | cons q m ih=>
  obtain⟨pk,pa⟩:=q
  unfold wR at h
  split at h
  .rcases mp.1 h with h | h
   .exact .inl h
   .exact .inr (by simp[h])
  .rcases mp.1 h with h | h
   .exact .inr (by simp[h])
   .rcases ih h with h | h
    .exact .inl h
    .exact .inr (by simp[h])
def alo{m:List (κ×α)}{k:κ}{a:α}:(wR m k a).length=if k∈m.map (·.1)then m.length else m.length+1:=by
 have:=mj List.length (afq (m:=m) (k:=k) (a:=a))
 rw[mg]at this
 rw[this]
 split<;>simp
def apG{m:List (κ×α)}{k:κ}{a x:α}(h:qj m k=some x):(wR m k a).length=m.length:=by
 rw[alo,mc (by rw[<-Ld (a:=k∈_),<-xK,h];simp)]
def aiQ{m:List (κ×α)}{k:κ}:(jt m k).Sublist m:=by
 induction m with
 | nil=>exact List.Sublist.slnil
 | cons p m ih=>
  obtain⟨pk,pa⟩:=p
  unfold jt
  split
  .exact List.sublist_cons_self _ _
  .exact ih.cons_cons _
def ajZ{m:List (κ×α)}{k k':κ}(h:(m.map (·.1)).Nodup):qj (jt m k) k'=if k'=k then none else qj m k':=by
 induction m with
 | nil=>simp[jt,qj]
 | cons p m ih=>
  obtain⟨pk,pa⟩:=p
  simp only[mF,nv]at h
  unfold jt
  by_cases c:k=pk
  .subst c
   rw[mc rfl]
   by_cases e:k'=k
   .subst e;rw[mc rfl,xK];exact h.1
   .rw[ma e];simp[qj,e]
  .rw[ma c]
   unfold qj
   rw[ih h.2]
   by_cases e:k'=pk
   .subst e;rw[mc rfl,mc rfl,ma (Ne.symm c)]
   .rw[ma e,ma e]
def asu{β:Type}{f:κ->α->β}{m:List (κ×α)}{k:κ}:qj (m.map fun p=>(p.1,f p.1 p.2)) k=(qj m k).map (f k):=by
 induction m with
 | nil=>rfl
 | cons p m ih=>
  obtain⟨pk,pa⟩:=p
  simp only[mF]
  unfold qj
  by_cases c:k=pk
  .subst c;simp
  .rw[ma c,ma c,ih]
end