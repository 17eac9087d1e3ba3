import Derived.CallsIn
import Derived.RangeFuncWrites
import Derived.RangeFuncLeaves
import Derived.Test.YtomdigihapdhnaaGreatDoorXH
set_option linter.all false
set_option maxRecDepth 99999
set_option maxHeartbeats 0
open Go.IntKind(i64)
open Go.Proofs.Tryz
namespace Go.Proofs.YtomdigihapdhnaaGreatDoor
namespace Zt
open Go SL G Pa
variable{B:World}[Zd B]{ro I I':AH}{tag tag':Nat->Nat}
variable{s:ByteArray}{l:List Value}{b c n r w:Nat}{Q:Sl->Int->AH->Prop}{e:TypeId}
theorem ajI(r:Nat)(g:xC ro)(hs:SL.Sep ro I)(hnone:parts (L s)=none->∀ tag' I',qd [] ro tag I tag' I'->Q ⟨none,0,0⟩ 20 I')
  (hsome:∀ ps,parts (L s)=some ps->∀ sl tag' I',qd [] ro tag I tag' I'->Row tag' I' r 9 sl (ps.map Pa.vS)->Q sl 0 I'):vc B ro s I Q:=by
 have base:vc B ro s (fun _=>none) (fun sl e I'=>(parts (L s)=none/\e=20/\sl=⟨none,0,0⟩)\/∃ ps tag',parts (L s)=some ps/\e=0/\Row tag' I' r 9 sl (ps.map Pa.vS)):=
  Pa.akP (tag:=fun _=>0) r g (fun h _=> .inl ⟨h,rfl,rfl⟩) fun ps h sl tag' I' _ hr=> .inr ⟨ps,tag',h,rfl,hr⟩
 have fr:=ahJ (ψ:=I) base (fun b o h=>by cases h)
 have e:join (fun _=>none) I=I:=by funext b;rfl
 rw[e]at fr
 refine aip fr ?_
 rintro sl ev I' hsep ⟨τ,rfl,hd,hq⟩
 have keep:∀ (tg:Nat->Nat),(∀b,τ b=none->tg b=tag b)->qd [] ro tag I tg (join τ I):=fun tg htg=>by
  have hn:∀ b o,I b=some o->τ b=none:=fun b o ho=>by
   cases h:τ b with
   | none=>rfl
   | some x=>have:=hd b x h;rw[ho]at this;cases this
  refine⟨fun b o ho _=>⟨htg b (hn b o ho),xu hd ho⟩,fun b o ho=>⟨htg b (hn b o ho),o,xu hd ho⟩,hsep⟩
 rcases hq with⟨h,rfl,rfl⟩ | ⟨ps,tg,h,rfl,hr⟩
 .exact hnone h tag _ (keep tag fun _ _=>rfl)
 .refine hsome ps h sl (fun b=>if(τ b).isSome then tg b else tag b) _ (keep _ fun b hb=>by simp[hb]) ?_
  rcases hr with h | ⟨b,cs,ha,ht,hb,hx⟩
  .exact .inl h
  .exact .inr ⟨b,cs,ha,by simp[hb,ht],by unfold join;rw[hb],hx⟩
theorem ao5(r:Nat)(g:xC ro)(hs:SL.Sep ro I)(hnone:parts (L s)=none->∀ sl tag' I',qd [] ro tag I tag' I'->Q sl 20 I')
  (hsome:∀ ps,parts (L s)=some ps->∀ sl tag' I',qd [] ro tag I tag' I'->Row tag' I' r 9 sl (ps.map Pa.vS)->Q sl 0 I'):vc B ro s I Q:=ajI r g hs (fun h tag' I' st=>hnone h _ tag' I' st) hsome
theorem arD{ps:List Str}{Q:ByteArray->Int->AH->Prop}(g:xC ro)(hps:parts (L s)=some ps)(hQ:∀ tag' I',qd [] ro tag I tag' I'->Q (S ((kD (L s)).getD [])) 0 I'):adP B ro s I Q:=by
 refine ahL fun hs=>?_
 unfold adQ
 refine ao5 (tag:=tag) 0 g hs (fun h=>by rw[hps]at h;cases h) fun ps' h sl tag1 I1 st1 r1=>?_
 rw[hps]at h;cases h
 have hln:sl.len=ps.length:=by rw[r1.len,ml]
 have hh:=ahW hps
 by_cases h0:ps=[]
 .subst h0
  rw[me (by rw[hln];try rfl)]
  rw[hh]at hQ
  exact hQ tag1 I1 st1
 .have hpos:=nr.2 h0
  rw[mc z6]
  obtain⟨p,hp,_,hget⟩:=Row.sget r1 st1.sep hpos
  refine⟨p,hp,z8,z6,_,hget 0 hpos,?_⟩
  rw[hh,List.head?_eq_getElem?,mh hpos]at hQ
  exact hQ tag1 I1 st1
theorem qH.keepS{C:List Nat}{s:Sl}{l:List (List Value)}(h:qH tag I r e w s l)(k:qi C ro tag I tag' I')(hr:r%64∉C:=by decide):qH tag' I' r e w s l:=by
 obtain⟨R,h1,h2⟩:=k
 exact h.keep h2 fun m=>hr (h1 _ m)
theorem Row.cellsAt(h:Row tag I r e ⟨some ⟨b,0,none⟩,n,c⟩ l)(hs:SL.Sep ro I):SL.qB ro I ⟨b,0,none⟩ 0 l:=by
 rcases nz l.length with h0 | h0
 .rw[mG h0];trivial
 .obtain⟨p,hp,hg⟩:=h.ptr hs h0
  cases hp
  exact wN 0 fun i v hv=>by rw[mp];have:=hg i v hv;rwa [mX]at this
theorem Row.readW1(h:Row tag I r e ⟨some ⟨b,0,none⟩,n,c⟩ l)(hs:SL.Sep ro I)(hw:l.length=w)(h0:0<w):SL.adR ro I w ⟨some ⟨b,0,none⟩,1,1⟩ [l]:=by
 obtain⟨p,hp,hg⟩:=h.ptr hs z6
 cases hp
 refine⟨rfl,(fun h=>by cases h),fun x hx=>by rw[mK.1 hx];exact hw,fun p hp i v hv=>?_⟩
 cases hp
 have:=hg i v (j1 hv)
 rwa [mX]at this
end Zt
namespace SL
open Go
variable{ops:Array Oper}{c:Code}{id:Nat}
structure adA(F:Fence):Prop where
 fn:∀ f,F.fn f
 depth:F.depth=none
 calls:∀ {P:Program} {n:Nat} {f:FuncId} {args:Array Value} {w:World} {R:Ending->World->Prop},Calls P f args w R->CallsIn F n P f args w R
theorem adA.wide:adA Fence.wide:=⟨fun _=>trivial,rfl,fun h=>callsIn_wide.2 h⟩
theorem adA.round(l:Nat):adA (Fence.wide.inRound l):=⟨fun _=>trivial,rfl,fun h=>(callsIn_wide.2 h:CallsIn Fence.wide _ _ _ _ _ _)⟩
structure po(N:Nat)(ds:List Deferred)(fr:Fr)(a:Act):Prop where
 size:a.tmps.size=N
 defers:a.defers=ds
 has:∀ i v,look fr i=some v->a.tmps[i]?=some v
theorem vZ.d{N:Nat}{fr:Fr}{a:Act}(h:vZ N fr a):po N [] fr a:=⟨h.size,h.defers,h.has⟩
theorem po.agrees{N:Nat}{ds:List Deferred}{fr:Fr}{a:Act}(h:po N ds fr a):vr a.eval fr:=by
 have h':vZ N fr {a with defers:=[]}:=⟨h.size,rfl,h.has⟩
 intro x v hx
 exact h'.agrees x v hx
theorem po.put{N:Nat}{ds:List Deferred}{fr:Fr}{a:Act}(h:po N ds fr a){d:Option Tmp}(hd:we N d=true)(v:Value):po N ds (qu d v fr) (a.put d v):=by
 have h':vZ N fr {a with defers:=[]}:=⟨h.size,rfl,h.has⟩
 have k:=h'.put hd v
 cases d with
 | none=>exact h
 | some d=>exact⟨k.size,h.defers,k.has⟩
theorem po.weaken{N:Nat}{ds:List Deferred}{fr fr':Fr}{a:Act}(h:po N ds fr' a)(hl:qg fr fr'):po N ds fr a:=⟨h.size,h.defers,fun i v e=>h.has i v (hl i v e)⟩
def arl(B:World)(ro:AH)(N:Nat)(ds:List Deferred)(φ:AH)(Q:Exit->Fr->AH->Prop)(e:Exit)(a:Act)(w:World):= ∃fr I,Q e fr I/\Own B ro φ I w/\po N ds fr a
section
variable{F:Fence}{n:Nat}{P:Program}{B:World}{ro:AH}{N:Nat}{ds:List Deferred}
def aij(o:Oper):Bool:=match o.op with
 | .defer _=>false
 | _=>true
theorem qZ.soundIn{o:Oper}{K:Fr->AH->Prop}{fr:Fr}{I φ:AH}{a:Act}{w:World}{next:Act->World->Prop}{Q:Exit->Act->World->Prop}
  (hF:adA F) (hnd:aij o=true) (h:qZ P B ro o K fr I) (hd:we N o.dst=true) (ho:Own B ro φ I w) (hf:po N ds fr a)
  (hk:∀ fr I a w,K fr I->Own B ro φ I w->po N ds fr a->next a w):o.wpIn F n P a w next Q:=by
 obtain⟨x,w',I',hr,hq,ho'⟩:=ahy _ (h _ hf.agrees) ho
 refine⟨fun f _=>hF.fn f,?_⟩
 rw[Oper.semAt_eq _ _ _ (fun c e=>by unfold aij at hnd;rw[e]at hnd;cases hnd),hr]
 cases x with
 | value v=>exact hk _ _ _ _ hq ho' (hf.put hd v)
 | skip=>exact hk _ _ _ _ hq ho' (hf.put hd undef)
 | enter f args=>
  refine⟨fun e=>(by rw[hF.depth]at e;cases e),hF.calls ?_⟩
  refine(hq φ w' ho').mono ?_
  rintro e w2 ⟨v,I2,rfl,hq2,ho2⟩
  exact hk _ _ _ _ hq2 ho2 (hf.put hd v)
 | _=>exact hq.elim
theorem amD{fr:Fr}{a:Act}(hf:po N ds fr a){j t:Nat}{v:Value}(ht:(ops[j]?).bind (·.dst)=some t)(hl:look fr t=some v):
  yielded ops a.tmps j=match v with | .bool b=>some b | _=>none:=
 yielded_eq (N:=N) (a:={a with defers:=[]}) ⟨hf.size,rfl,hf.has⟩ ht hl
theorem acR.soundIn(hF:adA F){Q:Exit->Fr->AH->Prop}{φ:AH}(hnd:∀ (i:Nat) (o:Oper),ops[i]?=some o->aij o=true)(l:List Nat):∀ {fr:Fr} {I:AH} {a:Act} {w:World},
  acR P B ro N ops (Q .normal) l fr I->Own B ro φ I w->po N ds fr a->wpOpsIn F n P ops (arl B ro N ds φ Q) l a w:=by
 induction l with
 | nil=>intro fr I a w h ho hf;exact⟨fr,I,h,ho,hf⟩
 | cons i rest ih=>
  intro fr I a w h ho hf
  simp only[acR]at h
  simp only[wpOpsIn]
  cases hi:ops[i]? with
  | none=>rw[hi]at h;exact ih h ho hf
  | some o=>
   rw[hi]at h
   obtain⟨hd,h⟩:=h
   dsimp only
   cases hg:o.guard with
   | none=>
    rw[hg]at h
    have hw:Region.wanted o (yielded ops a.tmps)=true:=by simp[Region.wanted,hg]
    rw[me hw]
    exact qZ.soundIn hF (hnd i o hi) h hd ho hf fun fr I a w hk ho hf=>ih hk ho hf
   | some g=>
    obtain⟨j,want⟩:=g
    rw[hg]at h
    obtain⟨t,v,ht,hl,h⟩:=h
    have hy:=amD hf ht hl
    rcases h with⟨rfl,h⟩ | ⟨hv,h⟩
    .have hw:Region.wanted o (yielded ops a.tmps)=true:=by simp[Region.wanted,hg,hy]
     rw[me hw]
     exact qZ.soundIn hF (hnd i o hi) h hd ho hf fun fr I a w hk ho hf=>ih hk ho hf
    .have hw:¬ Region.wanted o (yielded ops a.tmps)=true:=by
      simp only[Region.wanted,hg,hy]
      cases v<;>simp
      rename_i b;intro e;subst e;exact hv rfl
     rw[mc hw]
     exact⟨fun f _=>hF.fn f,ih h ho (hf.put hd undef)⟩
end
def AWF(F:Fence)(n:Nat)(ds:List Deferred)(P:Program)(B:World)(ro:AH)(N:Nat)(c:Code)(Q:Exit->Fr->AH->Prop)(fr:Fr)(I:AH):Prop:=
 ∀φ w a,Own B ro φ I w->po N ds fr a->c.wpIn F n P (arl B ro N ds φ Q) a w
section
variable{F:Fence}{n:Nat}{ds:List Deferred}{P:Program}{B:World}{ro:AH}{N:Nat}{Q:Exit->Fr->AH->Prop}{fr:Fr}{I:AH}
theorem AWF.ret(h:Q .ret fr I):AWF F n ds P B ro N .ret Q fr I:=fun _ _ _ ho hf=>wpIn_ret ⟨fr,I,h,ho,hf⟩
theorem AWF.seq{x y:Code}(h:AWF F n ds P B ro N x (ach (AWF F n ds P B ro N y Q) Q) fr I):AWF F n ds P B ro N (.seq x y) Q fr I:=by
 intro φ w a ho hf
 refine wpIn_seq (wpIn_mono (h φ w a ho hf) ?_)
 rintro e a' w' ⟨fr',I',hq,ho',hf'⟩
 cases e with
 | normal=>exact hq φ w' a' ho' hf'
 | _=>exact⟨fr',I',hq,ho',hf'⟩
theorem AWF.block(h:AWF F n ds P B ro N c (adY id Q) fr I):AWF F n ds P B ro N (.block id c) Q fr I:=by
 intro φ w a ho hf
 refine wpIn_block (wpIn_mono (h φ w a ho hf) ?_)
 rintro e a' w' ⟨fr',I',hq,ho',hf'⟩
 cases e with
 | exit id'=>
  simp only[adY]at hq
  simp only[Exit.inBlock]
  split
  .rename_i e;rw[me e]at hq;exact⟨fr',I',hq,ho',hf'⟩
  .rename_i e;rw[mc e]at hq;exact⟨fr',I',hq,ho',hf'⟩
 | _=>exact⟨fr',I',hq,ho',hf'⟩
theorem AWF.reg(hF:adA F)(hnd:ops.toList.all aij=true)(h:qE P B ro N ops (wk (Q .normal)) ops.toList fr I):AWF F n ds P B ro N (.region id ops false) Q fr I:=by
 intro φ w a ho hf
 have h1:acR P B ro N ops ((fun e=>wk (Q e)) .normal) (List.range ops.size) fr I:=by
  rw[List.range_eq_range']
  exact akI ops.size 0 z6 h
 refine wpIn_mono (wpIn_region (acR.soundIn hF (Q:=fun e=>wk (Q e)) (fun i o hi=>?_) _ h1 ho hf)) ?_
 .have:=mz.1 hnd o (by
   rw[Array.getElem?_eq_some_iff]at hi
   obtain⟨hlt,rfl⟩:=hi
   simp)
  exact this
 .rintro e a' w' ⟨fr',I',⟨fr0,h1,h2⟩,h3,h4⟩
  exact⟨fr0,I',h2,h3,h4.weaken h1⟩
theorem AWF.mono{Q':Exit->Fr->AH->Prop}(h:AWF F n ds P B ro N c Q fr I)(hq:∀ e fr I,Q e fr I->Q' e fr I):AWF F n ds P B ro N c Q' fr I:=
 fun φ w a ho ha=>wpIn_mono (h φ w a ho ha) fun _ _ _ ⟨fr,I,h1,h2,h3⟩=>⟨fr,I,hq _ _ _ h1,h2,h3⟩
end
end SL
namespace SL
open Go
variable{fn:Func}{Q:Value->AH->Prop}{w w':World}
section
variable{n:Nat}{P:Program}{B:World}{ro φ I:AH}{N:Nat}
theorem Own.keepBlocks[Zd B](h:Own B ro φ I w)(ho:w'.os=w.os)(ht:w'.tape=w.tape)(hp:w'.output=w.output)
  (hs:∀ b o,I b=some o->w'.heap[b]?=w.heap[b]?) (hf:∀ b o,φ b=some o->w'.heap[b]?=w.heap[b]?) (hr:∀ b o,ro b=some o->w'.heap[b]?=w.heap[b]?):Own B ro φ I w':=
 ⟨⟨ho.trans h.os.1,Zd.le _⟩,ht.trans h.tape,hp.trans h.output,fun b o e=>by obtain⟨h1,h2,h3⟩:=h.own b o e;exact⟨(hs b o e).trans h1,h2,h3⟩,
  fun b o e=>(hf b o e).trans (h.fr b o e),fun b o e=>(hr b o e).trans (h.ro b o e)⟩
def uH(w:World)(I:AH):AH:=fun b=>match I b with
 | some _=>none
 | none=>w.heap[b]?
theorem Own.all(h:Own B ro φ I w):Own B ro (uH w I) I w:=by
 refine⟨h.os,h.tape,h.output,fun b o e=>?_,fun b o e=>?_,h.ro⟩
 .obtain⟨h1,_,h3⟩:=h.own b o e
  exact⟨h1,by simp[uH,e],h3⟩
 .unfold uH at e
  split at e
  .cases e
  .exact e
theorem Own.unall{I':AH}(h:Own B ro φ I w)(k:Own B ro (uH w I) I' w'):Own B ro φ I' w':=by
 have hb:∀ b o,φ b=some o->uH w I b=some o:=fun b o e=>by
  unfold uH
  cases hs:I b with
  | some x=>have:=(h.own b x hs).2.1;rw[e]at this;cases this
  | none=>exact h.fr b o e
 refine⟨k.os,k.tape,k.output,fun b o e=>?_,fun b o e=>k.fr b o (hb b o e),k.ro⟩
 obtain⟨h1,h2,h3⟩:=k.own b o e
 refine⟨h1,?_,h3⟩
 cases hp:φ b with
 | none=>rfl
 | some x=>rw[hb b x hp]at h2;cases h2
structure atk(I0:AH)(ks:List Nat)(J:AH->Prop)(I:AH)(e:Exit)(I':AH):Prop where
 norm:e= .normal
 old:∀ b o,I b=some o->∃ o',I' b=some o'
 go:∃ I'',HLe I'' I'/\J I''
theorem al5{a:Act}{fr:Fr}{D:Nat}(hf:po N [{target:= .collected D,args:= #[]}] fr a)(fD:φ D=none)(rD:ro D=none)
  (ho:Own B ro (upd φ D (.deferred (some []))) I w)
  (h:∃ v,(∀tmps:Array Value,(∀i u,look fr i=some u->tmps[i]?=some u)->qe P ro (results fn tmps) I=some v)/\Q v I):
  bodyPostM Fence.wide n P fn (fun e w'=> ∃v I',e= .returned v/\Q v I'/\Own B ro φ I' w') .ret a w:=by
 obtain⟨v,hr,hq⟩:=h
 have hD:w.heap[D]?=some (.deferred (some [])):=ho.fr D _ (by simp[upd])
 have hO:Own B ro φ I (w.putObj D (.deferred none)):=by
  refine⟨ho.os,ho.tape,ho.output,fun b o e=>?_,fun b o e=>?_,fun b o e=>?_⟩
  .obtain⟨h1,h2,h3⟩:=ho.own b o e
   have hne:b≠D:=fun h=>by subst h;simp[upd]at h2
   exact⟨(World.putObj_heap_other hne).trans h1,by unfold upd at h2;rw[mc hne]at h2;exact h2,h3⟩
  .have hne:b≠D:=fun h=>by subst h;rw[fD]at e;cases e
   exact(World.putObj_heap_other hne).trans (ho.fr b o (by unfold upd;rw[mc hne];exact e))
  .have hne:b≠D:=fun h=>by subst h;rw[rD]at e;cases e
   exact(World.putObj_heap_other hne).trans (ho.ro b o e)
 show LeavesInM _ _ _ _ _ _ a.defers _ _
 rw[hf.defers]
 refine⟨z7,.inl ⟨D,_,rfl,run_takeDeferred hD,?_⟩⟩
 exact⟨v,afW _ (hr _ hf.has) hO,v,I,rfl,hq,hO⟩
theorem qc.of_marks{f:FuncId}{c:Code}{args:List Value}(hf:P.funcs[f]?=some fn)(hb:fn.body=some c)
  (hn:args.length<=fn.ntmps) (h:∀ φ w a,Own B ro φ I w->vZ fn.ntmps (adZ args 0) a->c.wpIn Fence.wide n P (bodyPostM Fence.wide n P fn (fun e w'=> ∃v I',e= .returned v/\Q v I'/\Own B ro φ I' w')) a w):
  qc P B ro f args.toArray I Q:=by
 intro φ w ho
 refine(callsIn_wide (n:=n)).1 ?_
 refine callsIn_of_wp_marks hf hb trivial ?_ rfl
 refine h φ w _ ho ⟨y6,rfl,?_⟩
 intro i v hi
 obtain⟨_,h2⟩:=aiy args 0 i v hi
 simp only[Nat.sub_zero]at h2
 have hlt:i<args.length:=by
  rcases mB i args.length with h' | h'
  .exact h'
  .rw[mw h']at h2;cases h2
 simp[Array.getElem?_append,hlt]
 simpa [mh hlt]using h2
end
end SL
namespace G
open Go SL
variable{B:World}{ro I:AH}
theorem ag0{n:Nat}{P:Program}{B:World}{ro φ I:AH}{N:Nat}{x y:Code}{R:Exit->Act->World->Prop}{fr:Fr}{w:World}{a:Act}
  (h:AW P B ro N x (ach (fun fr I=> ∀w a,SL.Own B ro φ I w->vZ N fr a->y.wpIn Fence.wide n P R a w) (fun _ _ _=>False)) fr I) (ho:SL.Own B ro φ I w) (hf:vZ N fr a):(Code.seq x y).wpIn Fence.wide n P R a w:=by
 refine wpIn_seq (wpIn_wide.2 (wp_mono (h φ w a ho hf) ?_))
 rintro e a' w' ⟨fr',I',hq,ho',hf'⟩
 cases e with
 | normal=>exact hq w' a' ho' hf'
 | _=>exact hq.elim
def aba(B:World)(ro:AH)(u0:Nat)(Q:Option Addr->Bool->AH->Prop)(I:AH):=
 ∃u1,qb ro I ⟨u0,0,none⟩=some (Sl.v u1)/\
 Q (some ⟨u0,0,none⟩) (decide (0<(u1.len:Int))) I
def pQ(B:World)(ro:AH)(u0:Nat)(Q:Option Addr->Bool->AH->Prop):Int->AH->(Int->AH->Prop)->Prop:=fun u1 I Y6=>
 ∃u2,qb ro I ⟨u0,0,none⟩=some (Sl.v u2)/\
 if u1<(u2.len:Int)then
 uS I fun ψ I=>
  ∃u3,qb (join ro ψ) (fun _=>none) ⟨u0,0,none⟩=some (Sl.v u3)/\
  ∃p4,u3.a=some p4/\(0:Int)<=u1/\u1<(u3.len:Int)/\
  ∃u5,qb (join ro ψ) (fun _=>none) ((p4.add (Int.toNat u1*5)).add 3)=some (.int .i64 u5)/\
  ∃u6,qb (join ro ψ) I ⟨u0,0,none⟩=some (Sl.v u6)/\
  ∃p7,u6.a=some p7/\(0:Int)<=u1/\u1<(u6.len:Int)/\
  ∃u8,qb (join ro ψ) I (p7.add (Int.toNat u1*5))=some (.string u8)/\
  abr B (join ro ψ) (some ⟨u0,0,none⟩) u8 I fun u9 I=>
  (qI ψ I->(fun I=>
  if u5<u9 then
   Q none false I
  else
  Y6 (i64.wrap (u1+1)) I) (join ψ I))
 else
 aba B ro u0 Q I
def pR(B:World)(ro:AH)(u0:Nat)(Q:Option Addr->Bool->AH->Prop)(I:AH):=
 lfpD (pQ B ro u0 Q) (0) I
def jr(B:World)(ro:AH)(u0 u1 u2:Nat)(Q:Option Addr->Bool->AH->Prop)(Y16:(Unit)->AH->Prop)(I:AH):=
 ∃u3,qb ro I ⟨u2,0,none⟩=some (Sl.v u3)/\
 ∃u4 u5 u6 u7 u8,qB ro I ⟨u0,0,none⟩ 0 [.string u4,Sl.v u5,.int .i64 u6,.int .i64 u7,.int .i64 u8]/\
 nw ro I (.cells #[.string u4,Sl.v u5,.int .i64 u6,.int .i64 u7,.int .i64 u8] 329) fun u9 I=>
 awp prog ro (Builtin.append_ #[325,325] 325 #[Sl.v u3,Sl.v (⟨some ⟨u9,0,none⟩,1,1⟩:Sl)]) (fun v I=> ∃(u10:Sl),v=Sl.v u10/\
 stN ⟨u2,0,none⟩ (fun I=>
  Y16 () I) [Sl.v u10] 0 I) I
def kK(B:World)(ro:AH)(u0 u1 u2:Nat)(Q:Option Addr->Bool->AH->Prop)(Y16:(Unit)->AH->Prop)(u3:Bool)(I:AH):=
 if u3=true then
 Q none false I
 else
 jr B ro u0 u1 u2 Q Y16 I
def kL(B:World)(ro:AH)(u0 u1 u2:Nat)(Q:Option Addr->Bool->AH->Prop)(Y16:(Unit)->AH->Prop)(u3:Bool)(I:AH):=
 if u3=true then
 kK B ro u0 u1 u2 Q Y16 true I
 else
 ∃u4,qb ro I ((⟨u0,0,none⟩:Addr).add 4)=some (.int .i64 u4)/\
 kK B ro u0 u1 u2 Q Y16 (!(decide (u4=0))) I
def kM(B:World)(ro:AH)(u0 u1 u2:Nat)(Q:Option Addr->Bool->AH->Prop)(Y16:(Unit)->AH->Prop)(u3:Bool)(I:AH):=
 if u3=true then
 kL B ro u0 u1 u2 Q Y16 true I
 else
 ∃u4,qb ro I ((⟨u0,0,none⟩:Addr).add 2)=some (.int .i64 u4)/\
 kL B ro u0 u1 u2 Q Y16 (!(decide (u4=0))) I
def kN(B:World)(ro:AH)(u0 u1 u2:Nat)(Q:Option Addr->Bool->AH->Prop)(Y16:(Unit)->AH->Prop)(u3:Bool)(I:AH):=
 if u3=true then
 Q none false I
 else
 jr B ro u0 u1 u2 Q Y16 I
def kO(B:World)(ro:AH)(u0 u1 u2:Nat)(u3:ByteArray)(Q:Option Addr->Bool->AH->Prop)(Y16:(Unit)->AH->Prop)(u4:Bool)(I:AH):=
 if u4=true then
 Q none false I
 else
 un B ro (some ⟨u2,0,none⟩) u3 I fun u5 I=>
 if u5<0 then
 kN B ro u0 u1 u2 Q Y16 true I
 else
 ∃u6,qb ro I ⟨u2,0,none⟩=some (Sl.v u6)/\
 ∃p7,u6.a=some p7/\(0:Int)<=u5/\u5<(u6.len:Int)/\
 ∃u8,qb ro I ((p7.add (Int.toNat u5*5)).add 4)=some (.int .i64 u8)/\
 kN B ro u0 u1 u2 Q Y16 (!(decide (u8=0))) I
def zQ(B:World)(ro:AH)(u0 u1 u2:Nat)(Q:Option Addr->Bool->AH->Prop)(Y16:(Unit)->AH->Prop)(u3:Bool)(I:AH):=
 if u3=true then
 Q none false I
 else
 ∃u4,qb ro I ⟨u2,0,none⟩=some (Sl.v u4)/\
 if(u4.len:Int)=0 then
 ∃u5,qb ro I ⟨u0,0,none⟩=some (.string u5)/\
 if¬(u5=(⟨#[47]⟩:ByteArray))then
  kM B ro u0 u1 u2 Q Y16 true I
 else
 ∃u6,qb ro I ((⟨u0,0,none⟩:Addr).add 1)=some (Sl.v u6)/\
 kM B ro u0 u1 u2 Q Y16 (decide (0<(u6.len:Int))) I
 else
 ∃u7,qb ro I ⟨u0,0,none⟩=some (.string u7)/\
 uA B ro u7 I fun u8 u9 I=>
 if¬(u9=true)then
 kO B ro u0 u1 u2 u8 Q Y16 true I
 else
 ∃u10,qb ro I ⟨u0,0,none⟩=some (.string u10)/\
 ∃u11,qb ro I ⟨u2,0,none⟩=some (Sl.v u11)/\
 ∃u12,qb ro I ⟨u2,0,none⟩=some (Sl.v u12)/\
 ∃p13,u11.a=some p13/\(0:Int)<=(i64.wrap ((u12.len:Int) - 1))/\(i64.wrap ((u12.len:Int) - 1))<(u11.len:Int)/\
 ∃u14,qb ro I (p13.add (Int.toNat (i64.wrap ((u12.len:Int) - 1))*5))=some (.string u14)/\
 kO B ro u0 u1 u2 u8 Q Y16 ((zD u10 u14) || (decide (u10=u14))) I
def js(B:World)(ro:AH)(u0 u1 u2:Nat)(u3:Bool)(Q:Option Addr->Bool->AH->Prop)(Y16:(Unit)->AH->Prop)(u4:Bool)(I:AH):=
 zQ B ro u0 u1 u2 Q Y16 u4 I
def vK(B:World)(ro:AH)(u0 u1 u2:Nat)(Q:Option Addr->Bool->AH->Prop)(Y16:(Unit)->AH->Prop)(u3:Bool)(I:AH):=
 if u3=true then
 zQ B ro u0 u1 u2 Q Y16 true I
 else
 ∃u4,qb ro I ((⟨u0,0,none⟩:Addr).add 4)=some (.int .i64 u4)/\
 if¬(u4=0)then
 ∃u5,qb ro I ((⟨u0,0,none⟩:Addr).add 3)=some (.int .i64 u5)/\
 js B ro u0 u1 u2 u3 Q Y16 (!(decide (u5=0))) I
 else
 js B ro u0 u1 u2 u3 Q Y16 false I
def kP(B:World)(ro:AH)(u0 u1 u2:Nat)(Q:Option Addr->Bool->AH->Prop)(Y16:(Unit)->AH->Prop)(u3:Bool)(I:AH):=
 if u3=true then
 vK B ro u0 u1 u2 Q Y16 true I
 else
 ∃u4,qb ro I ((⟨u0,0,none⟩:Addr).add 3)=some (.int .i64 u4)/\
 vK B ro u0 u1 u2 Q Y16 (decide (10000000000<u4)) I
def wx(B:World)(ro:AH)(u0 u1:Nat)(Q:Option Addr->Bool->AH->Prop):(Unit)->AH->((Unit)->AH->Prop)->Prop:=fun _ I Y16=>
 vp B ro (some ⟨u0,0,none⟩) I fun u2 I=>
 if 0<u2 then
 qL B ro (some ⟨u0,0,none⟩) I fun u3 I=>
 awp prog ro (convert 24 9 (Sl.v u3)) (fun v I=>
  (∃(u4:ByteArray),v= .string u4/\
  nw ro I (.cells #[.string ByteArray.empty,Sl.v (⟨none,0,0⟩:Sl),.int .i64 0,.int .i64 0,.int .i64 0] 329) fun u5 I=>
  stN ⟨u5,0,none⟩ (fun I=>
   qL B ro (some ⟨u0,0,none⟩) I fun u6 I=>
   stN ((⟨u5,0,none⟩:Addr).add 1) (fun I=>
   qm B ro (some ⟨u0,0,none⟩) I fun u7 I=>
   stN ((⟨u5,0,none⟩:Addr).add 2) (fun I=>
    qm B ro (some ⟨u0,0,none⟩) I fun u8 I=>
    stN ((⟨u5,0,none⟩:Addr).add 3) (fun I=>
    qm B ro (some ⟨u0,0,none⟩) I fun u9 I=>
    stN ((⟨u5,0,none⟩:Addr).add 4) (fun I=>
     ∃u10,qb ro I ((⟨u0,0,none⟩:Addr).add 2)=some (.int .i64 u10)/\
     if¬(u10=0)then
     kP B ro u5 u0 u1 Q Y16 true I
     else
     ∃u11,qb ro I ((⟨u5,0,none⟩:Addr).add 1)=some (Sl.v u11)/\
     kP B ro u5 u0 u1 Q Y16 (decide (256<(u11.len:Int))) I) [.int .i64 u9] 0 I) [.int .i64 u8] 0 I) [.int .i64 u7] 0 I) [Sl.v u6] 0 I) [.string u4,Sl.v (⟨none,0,0⟩:Sl),.int .i64 0,.int .i64 0,.int .i64 0] 0 I)) I
 else
 pR B ro u1 Q I
def adB(B:World)(ro:AH)(a0:Sl)(I:AH)(Q:Option Addr->Bool->AH->Prop):=
 nw ro I (.cells #[Sl.v a0,.int .i64 0,.int .i64 0] 147) fun u0 I=>
 nw ro I (.cells #[Sl.v (⟨none,0,0⟩:Sl)] 327) fun u1 I=>
 lfpD (wx B ro u0 u1 Q) () I
theorem ajJ{a0 Q}(h:Sep ro I->adB B ro a0 I Q):uy B ro a0 I Q:=by
 refine zb h func112 ntmps112 fun h=>?_;unfold adB at h;refine zw ?_;refine zm (wD (vs:=[(0,Sl.v a0)]) (cs:= #[Sl.v a0,.int .i64 0,.int .i64 0]) rfl mS ajs aju rfl rfl) ?_;refine zAp (wY rfl rfl) h fun u0 h=>?_;refine zm (wD (vs:=[]) (cs:= #[Sl.v (⟨none,0,0⟩:Sl)]) rfl nK as5 atc rfl rfl) ?_;refine zAp (wY rfl rfl) h fun u1 h=>?_
 refine AW.seqJ (fun fr I=>qg [(5,.pointer (some ⟨u1,0,none⟩))] fr/\pR B ro u1 Q I) ?_ ?_
 .rintro fr I ⟨hl,h⟩;refine AW.weaken ?_ hl (HLe.refl _)
  unfold pR at h;refine AW.seqJ (fun fr I=>qg [(5,.pointer (some ⟨u1,0,none⟩))] fr/\aba B ro u1 Q I) ?_ ?_
  .rintro fr I ⟨hl,h⟩;refine AW.weaken ?_ hl (HLe.refl _)
   unfold aba at h;refine AW.seq ?_;refine AW.drawn0 (fun i=>([0,0,0,0,3,0,0,0,0]:List Nat).getD i 2) [] [0,1,2,3,7,4,5,6,8] mixed j0 ?_
   refine zw ?_;refine Dp rfl rfl rfl rfl (qC rfl rfl) ?_
   refine zg nK um ?_;refine zR ng h fun u2 h=>?_;refine Dp rfl rfl rfl rfl (qD rfl rfl ng rfl rfl) ?_
   refine zw ?_;refine vn ?_
   exact zrr h
  refine zw ?_;refine qf.loop (fr':=[(5,.pointer (some ⟨u1,0,none⟩)),(10,.int .i64 0)]) ?_ FL
  refine h (fun u3 I=>qf _ _ _ _ _ _ [(5,.pointer (some ⟨u1,0,none⟩)),(10,.int .i64 u3)] I) ?_
  rintro u3 I Y6 hY6 h
  show AW _ _ _ _ _ _ _ _
  unfold pQ at h;refine AW.seq ?_;refine zw ?_;refine zm (qC rfl rfl) ?_;refine zf nK um ?_;refine zL ng h fun u4 h=>?_;refine zm (qD rfl rfl ng rfl rfl) ?_;refine zi h (fun h=>?_) fun h=>?_
  rotate_left
  .refine AW.exit ?_;refine zw ?_;refine qN ?_
   refine zw ?_;exact⟨FL,h⟩
  refine zw ?_;refine AW.seq ?_;refine zw ?_;refine AW.seq ?_;refine AW.drawnL (fun i=>([0,0,0,0,0,0,0,0,0,0,0,0,3,0,0,0,3,2,0]:List Nat).getD i 2) [(12,14),(12,15),(12,16),(12,17)] [0,1,2,3,4,5,6,7,8,9,10,11,13,12,14,15,16,17,18] mixed h j0 ?_
  clear h
  intro ψ I h
  refine zw ?_;refine Dp rfl rfl rfl rfl (qC rfl rfl) ?_
  refine zg nK um ?_;refine zS ng h fun u5 h=>?_;refine zw ?_;obtain⟨p6,ha,h0,h1,h⟩:=h
  refine Dp rfl rfl rfl rfl (wR rfl ng ack (ixL rfl ha) rfl h0 h1) ?_
  refine zg nu ty3 ?_;refine zS mj h fun u7 h=>?_;refine zw ?_;refine Dp rfl rfl rfl rfl (qC rfl rfl) ?_
  refine zg nK um ?_;refine zR ng h fun u8 h=>?_;obtain⟨p9,ha,h0,h1,h⟩:=h
  refine Dp rfl rfl rfl rfl (wR rfl ng ack (ixL rfl ha) rfl h0 h1) ?_
  refine zg nu ty9 ?_;refine zR mu h fun u10 h=>?_;refine zG func173 h ?_;rintro v I ⟨u11,rfl,h⟩;refine zw ?_;refine⟨_,zz.refl _,fun hdj=>?_⟩
  replace h:=h hdj
  refine zi h (fun h=>?_) fun h=>?_
  .exact zrr h
  refine zw ?_;refine qf.head (fr':=[(5,.pointer (some ⟨u1,0,none⟩)),(10,.int .i64 (i64.wrap (u3+1)))]) ?_ FL
  exact hY6 _ _ h
 refine zw ?_;refine qf.loop (fr':=[(4,.pointer (some ⟨u0,0,none⟩)),(5,.pointer (some ⟨u1,0,none⟩))]) ?_ FL
 refine h (fun _ I=>qf _ _ _ _ _ _ [(4,.pointer (some ⟨u0,0,none⟩)),(5,.pointer (some ⟨u1,0,none⟩))] I) ?_
 rintro _ I Y16 hY16 h
 show AW _ _ _ _ _ _ _ _
 unfold wx at h;refine AW.seq ?_;refine zc func61 h ?_;rintro v I ⟨u12,rfl,h⟩;refine zi h (fun h=>?_) fun h=>?_
 rotate_left
 .refine AW.exit ?_;refine zw ?_;refine qN ?_
  refine zw ?_;exact⟨FL,h⟩
 refine zc func60 h ?_;rintro v I ⟨u13,rfl,h⟩;refine zl (aeK rfl rfl (qj _ h ?_))
 rintro v I ⟨u14,rfl,h⟩;refine zm (wD (vs:=[(0,.string u14)]) (cs:= #[.string u14,Sl.v (⟨none,0,0⟩:Sl),.int .i64 0,.int .i64 0,.int .i64 0]) rfl nu ack atd rfl rfl) ?_;refine zA (vw rfl ack) h fun u15 h=>?_;refine zs ack h fun I h=>?_;refine zc func60 h ?_;rintro v I ⟨u16,rfl,h⟩;refine zf nu wq ?_;refine zs wq h fun I h=>?_;refine zc func59 h ?_
 rintro v I ⟨u17,rfl,h⟩;refine zf nu ty3 ?_;refine zs ty3 h fun I h=>?_;refine zc func59 h ?_;rintro v I ⟨u18,rfl,h⟩;refine zf nu ty3 ?_;refine zs ty3 h fun I h=>?_;refine zc func59 h ?_;rintro v I ⟨u19,rfl,h⟩;refine zf nu ty3 ?_;refine zsp ty3 h fun I h=>?_;refine AW.seq ?_;refine zw ?_;refine zm (qC rfl rfl) ?_;refine zf mS ty3 ?_
 refine zLp mj h fun u20 h=>?_;refine qn 5 (!(decide (u20=0))) (qp mg) h (fun fr I=> ∃(u21:Bool),qg [(4,.pointer (some ⟨u0,0,none⟩)),(5,.pointer (some ⟨u1,0,none⟩)),(6,.pointer (some ⟨u15,0,none⟩)),(45,.bool u21)] fr/\kP B ro u15 u0 u1 Q Y16 u21 I) ?_ ?_ ?_
 .intro h e5 hk5;refine zv e5 ?_;exact hk5 _ _ ⟨_,FL,h⟩
 .intro h e5 hk5;refine qo (qK rfl nu rfl wq z8 rfl) rfl rfl rfl rfl e5 ?_
  obtain⟨u22,hc,h⟩:=h
  refine Lyb rfl rfl rfl rfl e5 (wU rfl mo rfl rfl hc ?_)
  refine qo (qD rfl rfl mo rfl rfl) rfl rfl rfl rfl e5 ?_
  refine zv e5 ?_;exact hk5 _ _ ⟨_,FL,h⟩
 rintro fr I ⟨u21,hl,h⟩;unfold kP at h;refine Lfr hl ?_
 refine zw ?_;refine qn 4 u21 Iff.rfl h (fun fr I=> ∃(u23:Bool),qg [(4,.pointer (some ⟨u0,0,none⟩)),(5,.pointer (some ⟨u1,0,none⟩)),(6,.pointer (some ⟨u15,0,none⟩)),(50,.bool u23)] fr/\vK B ro u15 u0 u1 Q Y16 u23 I) ?_ ?_ ?_
 .intro h e11 hk11;refine zv e11 ?_;exact hk11 _ _ ⟨_,FL,h⟩
 .intro h e11 hk11;refine qo (qK rfl nu rfl ty3 z8 rfl) rfl rfl rfl rfl e11 ?_
  obtain⟨u24,hc,h⟩:=h
  refine Lyb rfl rfl rfl rfl e11 (wU rfl mj rfl rfl hc ?_)
  refine zv e11 ?_;exact hk11 _ _ ⟨_,FL,h⟩
 rintro fr I ⟨u23,hl,h⟩;unfold vK at h;refine Lfr hl ?_
 refine zw ?_;refine qn 9 u23 Iff.rfl h (fun fr I=> ∃(u25:Bool),qg [(4,.pointer (some ⟨u0,0,none⟩)),(5,.pointer (some ⟨u1,0,none⟩)),(6,.pointer (some ⟨u15,0,none⟩)),(60,.bool u25)] fr/\zQ B ro u15 u0 u1 Q Y16 u25 I) ?_ ?_ ?_
 .intro h e16 hk16;refine zv e16 ?_;refine Ln rfl rfl rfl rfl (.inr rfl) ?_
  refine Ln rfl rfl rfl rfl (.inr rfl) ?_
  refine Ln rfl rfl rfl rfl (.inr rfl) ?_
  refine zv e16 ?_;exact hk16 _ _ ⟨_,FL,h⟩
 .intro h e16 hk16;refine qo (qK rfl nu rfl ty3 z8 rfl) rfl rfl rfl rfl e16 ?_
  obtain⟨u26,hc,h⟩:=h
  refine Lyb rfl rfl rfl rfl e16 (wU rfl mj rfl rfl hc ?_)
  refine zv e16 ?_;refine qn 4 (!(decide (u26=0))) (qp mg) h (fun fr I=> ∃(u27:Bool),qg [(4,.pointer (some ⟨u0,0,none⟩)),(5,.pointer (some ⟨u1,0,none⟩)),(6,.pointer (some ⟨u15,0,none⟩)),(51,.bool u23),(59,.bool u27)] fr/\js B ro u15 u0 u1 u23 Q Y16 u27 I) ?_ ?_ ?_
  .intro h e20 hk20;refine qo (qK rfl nu rfl ty3 z8 rfl) rfl rfl rfl rfl e20 ?_
   obtain⟨u28,hc,h⟩:=h
   refine Lyb rfl rfl rfl rfl e20 (wU rfl mj rfl rfl hc ?_)
   refine zy e20 ?_;refine qo (qT rfl (evb e20) rfl) rfl rfl rfl rfl e16 ?_
   exact hk20 _ _ ⟨_,FL,h⟩
  .intro h e20 hk20;refine zv e20 ?_;refine qo (wL rfl (evb e20) rfl) rfl rfl rfl rfl e16 ?_
   exact hk20 _ _ ⟨_,FL,h⟩
  rintro fr I ⟨u27,hl,h⟩;unfold js at h;refine Lfr hl ?_
  refine zk e16 ?_;exact hk16 _ _ ⟨_,FL,h⟩
 rintro fr I ⟨u25,hl,h⟩;unfold zQ at h;refine Lfr hl ?_
 refine zj h (fun h=>?_) fun h=>?_
 .exact zrr h
 refine zw ?_;refine AW.seqJ (fun fr I=>qg [(4,.pointer (some ⟨u0,0,none⟩)),(5,.pointer (some ⟨u1,0,none⟩)),(6,.pointer (some ⟨u15,0,none⟩))] fr/\jr B ro u15 u0 u1 Q Y16 I) ?_ ?_
 .rintro fr I ⟨hl,h⟩;refine AW.weaken ?_ hl (HLe.refl _)
  unfold jr at h;refine AW.drawn0 (fun i=>([0,0,0,0,3,3,1,2,0,0,2]:List Nat).getD i 2) [(5,6),(5,7)] [0,1,2,3,4,5,6,7,8,9,10] mixed j0 ?_
  refine zw ?_;refine Dp rfl rfl rfl rfl (qC rfl rfl) ?_
  refine zg nK um ?_;refine zR ng h fun u29 h=>?_;obtain⟨u30,u31,u32,u33,u34,hc,h⟩:=h
  refine Dr rfl rfl rfl rfl (ajq rfl nu rfl ack rfl hc) ?_
  refine Da rfl rfl rfl rfl (wS (vs:=[(0,.agg #[.string u30,Sl.v u31,.int .i64 u32,.int .i64 u33,.int .i64 u34])]) (cs:= #[.string u30,Sl.v u31,.int .i64 u32,.int .i64 u33,.int .i64 u34]) rfl ng ack z8 rfl rfl) fun u35 g1 g2=>?_
  replace h:=h u35 g1 g2
  refine Dg rfl rfl rfl rfl (yt (s:=Builtin.append_ #[325,325] 325 #[Sl.v u29,Sl.v (⟨some ⟨u35,0,none⟩,1,1⟩:Sl)]) rfl rfl (fun _=>rfl) (qj _ h ?_))
  rintro v I ⟨u36,rfl,h⟩;refine Dp rfl rfl rfl rfl (qC rfl rfl) ?_
  refine zg nK um ?_;refine Dg rfl rfl rfl rfl (aeh rfl um rfl rfl rfl rfl (pZ h fun I h=>?_))
  refine vn ?_
  refine zw ?_;refine qf.head (fr':=[(4,.pointer (some ⟨u0,0,none⟩)),(5,.pointer (some ⟨u1,0,none⟩))]) ?_ FL
  exact hY16 _ _ h
 refine zw ?_;refine zm (qC rfl rfl) ?_;refine zf nK um ?_;refine zL ng h fun u37 h=>?_;refine zm (qD rfl rfl ng rfl rfl) ?_;refine zi h (fun h=>?_) fun h=>?_
 .refine zf nu ty9 ?_;refine zL mu h fun u38 h=>?_;refine zm (ajg rfl rfl rfl) ?_;refine zw ?_;refine qn 5 (!(decide (u38=(⟨#[47]⟩:ByteArray)))) (qp mg) h (fun fr I=> ∃(u39:Bool),qg [(4,.pointer (some ⟨u0,0,none⟩)),(5,.pointer (some ⟨u1,0,none⟩)),(6,.pointer (some ⟨u15,0,none⟩)),(75,.bool u39)] fr/\kM B ro u15 u0 u1 Q Y16 u39 I) ?_ ?_ ?_
  .intro h e3 hk3;refine zv e3 ?_;exact hk3 _ _ ⟨_,FL,h⟩
  .intro h e3 hk3;refine qo (qK rfl nu rfl wq z8 rfl) rfl rfl rfl rfl e3 ?_
   obtain⟨u40,hc,h⟩:=h
   refine Lyb rfl rfl rfl rfl e3 (wU rfl mo rfl rfl hc ?_)
   refine qo (qD rfl rfl mo rfl rfl) rfl rfl rfl rfl e3 ?_
   refine zv e3 ?_;exact hk3 _ _ ⟨_,FL,h⟩
  rintro fr I ⟨u39,hl,h⟩;unfold kM at h;refine Lfr hl ?_
  refine zw ?_;refine qn 4 u39 Iff.rfl h (fun fr I=> ∃(u41:Bool),qg [(4,.pointer (some ⟨u0,0,none⟩)),(5,.pointer (some ⟨u1,0,none⟩)),(6,.pointer (some ⟨u15,0,none⟩)),(80,.bool u41)] fr/\kL B ro u15 u0 u1 Q Y16 u41 I) ?_ ?_ ?_
  .intro h e9 hk9;refine zv e9 ?_;exact hk9 _ _ ⟨_,FL,h⟩
  .intro h e9 hk9;refine qo (qK rfl nu rfl ty3 z8 rfl) rfl rfl rfl rfl e9 ?_
   obtain⟨u42,hc,h⟩:=h
   refine Lyb rfl rfl rfl rfl e9 (wU rfl mj rfl rfl hc ?_)
   refine zv e9 ?_;exact hk9 _ _ ⟨_,FL,h⟩
  rintro fr I ⟨u41,hl,h⟩;unfold kL at h;refine Lfr hl ?_
  refine zw ?_;refine qn 4 u41 Iff.rfl h (fun fr I=> ∃(u43:Bool),qg [(4,.pointer (some ⟨u0,0,none⟩)),(5,.pointer (some ⟨u1,0,none⟩)),(6,.pointer (some ⟨u15,0,none⟩)),(85,.bool u43)] fr/\kK B ro u15 u0 u1 Q Y16 u43 I) ?_ ?_ ?_
  .intro h e14 hk14;refine zv e14 ?_;exact hk14 _ _ ⟨_,FL,h⟩
  .intro h e14 hk14;refine qo (qK rfl nu rfl ty3 z8 rfl) rfl rfl rfl rfl e14 ?_
   obtain⟨u44,hc,h⟩:=h
   refine Lyb rfl rfl rfl rfl e14 (wU rfl mj rfl rfl hc ?_)
   refine zv e14 ?_;exact hk14 _ _ ⟨_,FL,h⟩
  rintro fr I ⟨u43,hl,h⟩;unfold kK at h;refine Lfr hl ?_
  refine zj h (fun h=>?_) fun h=>?_
  rotate_left
  .refine zw ?_;exact⟨FL,h⟩
  exact zrr h
 refine zf nu ty9 ?_;refine zL mu h fun u45 h=>?_;refine zc func172 h ?_;rintro v I ⟨u46,u47,rfl,h⟩;refine zw ?_;refine AW.seq ?_;refine AW.seqJ (fun fr I=> ∃(u48:Bool),qg [(4,.pointer (some ⟨u0,0,none⟩)),(5,.pointer (some ⟨u1,0,none⟩)),(6,.pointer (some ⟨u15,0,none⟩)),(7,.string u46),(111,.bool u48)] fr/\kO B ro u15 u0 u1 u46 Q Y16 u48 I) ?_ ?_
 rotate_left
 .refine AW.drawn0 (fun i=>([0,0,0,0,3,0,0,0,3,0,0,0,3,0,0,0,0,3,0,0]:List Nat).getD i 2) [] [0,1,2,3,5,6,7,9,10,11,4,8,12,13,14,15,16,17,18,19] mixed j0 ?_
  refine zw ?_;refine abm (!u47) (qp Iff.rfl) h ?_ ?_
  .intro h e2
   refine Dpn rfl rfl rfl rfl rfl (.inl (by rw[e2];try rfl)) rfl ?_
   refine Dpn rfl rfl rfl rfl rfl (.inl (by rw[e2];try rfl)) rfl ?_
   refine Dpn rfl rfl rfl rfl rfl (.inl (by rw[e2];try rfl)) rfl ?_
   refine Dpn rfl rfl rfl rfl rfl (.inl (by rw[e2];try rfl)) rfl ?_
   refine Dpn rfl rfl rfl rfl rfl (.inl (by rw[e2];try rfl)) rfl ?_
   refine Dpn rfl rfl rfl rfl rfl (.inl (by rw[e2];try rfl)) rfl ?_
   refine Dpn rfl rfl rfl rfl rfl (.inl (by rw[e2];try rfl)) rfl ?_
   refine Drn rfl rfl rfl rfl rfl (.inl (by rw[e2];try rfl)) rfl ?_
   refine Drn rfl rfl rfl rfl rfl (.inl (by rw[e2];try rfl)) rfl ?_
   refine Drn rfl rfl rfl rfl rfl (.inl (by rw[e2];try rfl)) rfl ?_
   refine Dpn rfl rfl rfl rfl rfl (.inl (by rw[e2];try rfl)) rfl ?_
   refine Dpn rfl rfl rfl rfl rfl (.inl (by rw[e2];try rfl)) rfl ?_
   refine Dpn rfl rfl rfl rfl rfl (.inl (by rw[e2];try rfl)) rfl ?_
   refine Dpn rfl rfl rfl rfl rfl (.inl (by rw[e2];try rfl)) rfl ?_
   refine Drn rfl rfl rfl rfl rfl (.inl (by rw[e2];try rfl)) rfl ?_
   refine Dpn rfl rfl rfl rfl rfl (.inl (by rw[e2];try rfl)) rfl ?_
   refine Dp rfl rfl rfl rfl (qT rfl (evb e2) rfl) ?_
   refine vn ?_
   refine zw ?_;exact⟨_,FL,h⟩
  intro h e2
  refine Dpy rfl rfl rfl rfl rfl e2 rfl (qK rfl nu rfl ty9 z8 rfl) ?_
  refine Dpy rfl rfl rfl rfl rfl e2 rfl (zZ rfl rfl) ?_
  refine Dpy rfl rfl rfl rfl rfl e2 rfl (qC rfl rfl) ?_
  refine Dpy rfl rfl rfl rfl rfl e2 rfl (qK rfl nK rfl um z8 rfl) ?_
  refine Dpy rfl rfl rfl rfl rfl e2 rfl (zZ rfl rfl) ?_
  refine Dpy rfl rfl rfl rfl rfl e2 rfl (qC rfl rfl) ?_
  refine Dpy rfl rfl rfl rfl rfl e2 rfl (qK rfl nK rfl um z8 rfl) ?_
  obtain⟨u49,hc,h⟩:=h
  refine Dry rfl rfl rfl rfl rfl e2 rfl (abT rfl mu rfl rfl hc) ?_
  obtain⟨u50,hc,h⟩:=h
  refine Dry rfl rfl rfl rfl rfl e2 rfl (abT rfl ng rfl rfl hc) ?_
  obtain⟨u51,hc,h⟩:=h
  refine Dry rfl rfl rfl rfl rfl e2 rfl (abT rfl ng rfl rfl hc) ?_
  refine Dpy rfl rfl rfl rfl rfl e2 rfl (qD rfl rfl ng rfl rfl) ?_
  refine Dpy rfl rfl rfl rfl rfl e2 rfl (ajf rfl rfl rfl) ?_
  obtain⟨p52,ha,h0,h1,h⟩:=h
  refine Dpy rfl rfl rfl rfl rfl e2 rfl (wR rfl ng ack (ixL rfl ha) rfl h0 h1) ?_
  refine Dpy rfl rfl rfl rfl rfl e2 rfl (qK rfl nu rfl ty9 z8 rfl) ?_
  obtain⟨u53,hc,h⟩:=h
  refine Dry rfl rfl rfl rfl rfl e2 rfl (abT rfl mu rfl rfl hc) ?_
  refine Dpy rfl rfl rfl rfl rfl e2 rfl (ajh rfl rfl rfl) ?_
  refine Dp rfl rfl rfl rfl (wL rfl (evb e2) rfl) ?_
  refine vn ?_
  refine zw ?_;exact⟨_,FL,h⟩
 rintro fr I ⟨u48,hl,h⟩;refine AW.weaken ?_ hl (HLe.refl _)
 unfold kO at h;refine zj h (fun h=>?_) fun h=>?_
 .exact zrr h
 refine zC func113 h fun u54 I h=>?_;refine qn 10 (decide (u54<0)) mg h (fun fr I=> ∃(u55:Bool),qg [(4,.pointer (some ⟨u0,0,none⟩)),(5,.pointer (some ⟨u1,0,none⟩)),(6,.pointer (some ⟨u15,0,none⟩)),(127,.bool u55)] fr/\kN B ro u15 u0 u1 Q Y16 u55 I) ?_ ?_ ?_
 .intro h e2 hk2;refine zv e2 ?_;exact hk2 _ _ ⟨_,FL,h⟩
 .intro h e2 hk2;refine zy e2 ?_;refine qo (qC rfl rfl) rfl rfl rfl rfl e2 ?_
  refine qo (qK rfl nK rfl um z8 rfl) rfl rfl rfl rfl e2 ?_
  obtain⟨u56,hc,h⟩:=h
  refine Lyb rfl rfl rfl rfl e2 (wU rfl ng rfl rfl hc ?_)
  refine zy e2 ?_;obtain⟨p57,ha,h0,h1,h⟩:=h
  refine qo (wR rfl ng ack (ixL rfl ha) rfl h0 h1) rfl rfl rfl rfl e2 ?_
  refine qo (qK rfl nu rfl ty3 z8 rfl) rfl rfl rfl rfl e2 ?_
  obtain⟨u58,hc,h⟩:=h
  refine Lyb rfl rfl rfl rfl e2 (wU rfl mj rfl rfl hc ?_)
  refine zv e2 ?_;exact hk2 _ _ ⟨_,FL,h⟩
 rintro fr I ⟨u55,hl,h⟩;unfold kN at h;refine Lfr hl ?_
 refine zj h (fun h=>?_) fun h=>?_
 rotate_left
 .refine zw ?_;exact⟨FL,h⟩
 exact zrr h
def pS(B:World)(ro:AH)(Q:Int->AH->Prop)(I:AH):=
 Q (-1) I
def jK(B:World)(ro:AH)(a0:Option Addr)(a1:ByteArray)(Q:Int->AH->Prop):Int->AH->(Int->AH->Prop)->Prop:=fun u0 I Y2=>
 ∃p1,a0=some p1/\
 ∃u2,qb ro I p1=some (Sl.v u2)/\
 if u0<(u2.len:Int)then
 ∃p3,a0=some p3/\
 ∃u4,qb ro I p3=some (Sl.v u4)/\
 ∃p5,u4.a=some p5/\(0:Int)<=u0/\u0<(u4.len:Int)/\
 ∃u6,qb ro I (p5.add (Int.toNat u0*5))=some (.string u6)/\
 if u6=a1 then
  Q u0 I
 else
 Y2 (i64.wrap (u0+1)) I
 else
 pS B ro Q I
def ab2(B:World)(ro:AH)(a0:Option Addr)(a1:ByteArray)(I:AH)(Q:Int->AH->Prop):=
 lfpD (jK B ro a0 a1 Q) (0) I
theorem ahX{a0 a1 Q}(h:Sep ro I->ab2 B ro a0 a1 I Q):un B ro a0 a1 I Q:=by
 refine zb h func113 ntmps113 fun h=>?_;unfold ab2 at h;refine zw ?_;refine AW.seqJ (fun fr I=>qg [] fr/\pS B ro Q I) ?_ ?_
 .rintro fr I ⟨hl,h⟩;refine AW.weaken ?_ hl (HLe.refl _)
  unfold pS at h;exact zr h
 refine zw ?_;refine qf.loop (fr':=[(0,.pointer a0),(1,.string a1),(5,.int .i64 0)]) ?_ FL
 refine h (fun u0 I=>qf _ _ _ _ _ _ [(0,.pointer a0),(1,.string a1),(5,.int .i64 u0)] I) ?_
 rintro u0 I Y2 hY2 h
 show AW _ _ _ _ _ _ _ _
 unfold jK at h;refine AW.seq ?_;refine zN h fun p1 h=>?_;refine zf nK um ?_;refine zL ng h fun u2 h=>?_;refine zm (qD rfl rfl ng rfl rfl) ?_;refine zi h (fun h=>?_) fun h=>?_
 rotate_left
 .refine AW.exit ?_;refine zw ?_;refine qN ?_
  refine zw ?_;exact⟨FL,h⟩
 refine zw ?_;refine AW.seq ?_;refine zN h fun p3 h=>?_;refine zf nK um ?_;refine zLp ng h fun u4 h=>?_;obtain⟨p5,ha,h0,h1,h⟩:=h
 refine zm (wR rfl ng ack (ixL rfl ha) rfl h0 h1) ?_;refine zf nu ty9 ?_;refine zL mu h fun u6 h=>?_;refine zi h (fun h=>?_) fun h=>?_
 .exact zr h
 refine zw ?_;refine qf.head (fr':=[(0,.pointer a0),(1,.string a1),(5,.int .i64 (i64.wrap (u0+1)))]) ?_ FL
 exact hY2 _ _ h
def pq(B:World)(ro:AH)(Q:Int->AH->Prop)(u0:Int)(I:AH):=
 Q u0 I
def kw(B:World)(ro:AH)(a0:Option Addr)(a1:ByteArray)(u0:Int)(Q:Int->AH->Prop)(Y3:(Int×Int)->AH->Prop)(u1:Int)(I:AH):=
 Y3 (u1,i64.wrap (u0+1)) I
def kx(B:World)(ro:AH)(a0:Option Addr)(a1:ByteArray)(Q:Int->AH->Prop):(Int×Int)->AH->((Int×Int)->AH->Prop)->Prop:=fun⟨u0,u1⟩ I Y3=>
 ∃p2,a0=some p2/\
 ∃u3,qb ro I p2=some (Sl.v u3)/\
 if u1<(u3.len:Int)then
 ∃p4,a0=some p4/\
 ∃u5,qb ro I p4=some (Sl.v u5)/\
 ∃p6,u5.a=some p6/\(0:Int)<=u1/\u1<(u5.len:Int)/\
 ∃u7,qb ro I (p6.add (Int.toNat u1*5))=some (.string u7)/\
 uA B ro u7 I fun u8 u9 I=>
 if(u9=true)/\(u8=a1)then
  kw B ro a0 a1 u1 Q Y3 (i64.wrap (u0+1)) I
 else
 kw B ro a0 a1 u1 Q Y3 u0 I
 else
 pq B ro Q u0 I
def abB(B:World)(ro:AH)(a0:Option Addr)(a1:ByteArray)(I:AH)(Q:Int->AH->Prop):=
 lfpD (kx B ro a0 a1 Q) (0,0) I
theorem ahu{a0 a1 Q}(h:Sep ro I->abB B ro a0 a1 I Q):abr B ro a0 a1 I Q:=by
 refine zb h func173 ntmps173 fun h=>?_;unfold abB at h;refine zw ?_;refine AW.seqJ (fun fr I=> ∃(u0:Int),qg [(5,.int .i64 u0)] fr/\pq B ro Q u0 I) ?_ ?_
 .rintro fr I ⟨u0,hl,h⟩;refine AW.weaken ?_ hl (HLe.refl _)
  unfold pq at h;exact zr h
 refine zw ?_;refine qf.loop (fr':=[(0,.pointer a0),(1,.string a1),(5,.int .i64 0),(6,.int .i64 0)]) ?_ FL
 refine h (fun⟨u1,u2⟩ I=>qf _ _ _ _ _ _ [(0,.pointer a0),(1,.string a1),(5,.int .i64 u1),(6,.int .i64 u2)] I) ?_
 rintro⟨u1,u2⟩ I Y3 hY3 h
 show AW _ _ _ _ _ _ _ _
 unfold kx at h;dsimp only at h;refine AW.seq ?_;refine zN h fun p3 h=>?_;refine zf nK um ?_;refine zL ng h fun u4 h=>?_;refine zm (qD rfl rfl ng rfl rfl) ?_;refine zi h (fun h=>?_) fun h=>?_
 rotate_left
 .refine AW.exit ?_;refine zw ?_;refine qN ?_
  refine zw ?_;exact⟨_,FL,h⟩
 refine zw ?_;refine AW.seqJ (fun fr I=> ∃(u5:Int),qg [(0,.pointer a0),(1,.string a1),(6,.int .i64 u2),(5,.int .i64 u5)] fr/\kw B ro a0 a1 u2 Q Y3 u5 I) ?_ ?_
 .rintro fr I ⟨u5,hl,h⟩;refine AW.weaken ?_ hl (HLe.refl _)
  unfold kw at h;refine zw ?_;refine qf.head (fr':=[(0,.pointer a0),(1,.string a1),(5,.int .i64 u5),(6,.int .i64 (i64.wrap (u2+1)))]) ?_ FL
  exact hY3 _ _ h
 refine zN h fun p6 h=>?_;refine zf nK um ?_;refine zLp ng h fun u7 h=>?_;obtain⟨p8,ha,h0,h1,h⟩:=h
 refine zm (wR rfl ng ack (ixL rfl ha) rfl h0 h1) ?_;refine zf nu ty9 ?_;refine zL mu h fun u9 h=>?_;refine zc func172 h ?_;rintro v I ⟨u10,u11,rfl,h⟩;refine zw ?_;refine qx 4 u11 [(0,.pointer a0),(1,.string a1),(5,.int .i64 u1),(6,.int .i64 u2),(35,.bool (u11 && (decide (u10=a1))))] ?_ ?_ ?_
 .intro e1 hk1
  refine zv e1 ?_;exact hk1 _ (Fe e1)
 .intro e1 hk1
  refine zv e1 ?_;exact hk1 _ (Fe e1)
 intro fr hl
 refine Lfr hl ?_
 refine zw ?_;refine AW.iff rfl (xv Iff.rfl mg) h (fun h=>?_) (fun h=>?_)
 rotate_left
 .refine zw ?_;exact⟨_,FL,h⟩
 refine zw ?_;exact⟨_,FL,h⟩
end G
namespace Zt
open Go SL G Pa
variable{B:World}[Zd B]{ro I I':AH}{tag tag':Nat->Nat}
variable{Q:Int->AH->Prop}{T:Nat}{l:St}{k:Str}
def acr(p:Str×Nd)(d:Sl):List Value:=[.string (S p.1),Sl.v d,.int .i64 p.2.ver,.int .i64 p.2.ctr,.int .i64 p.2.own]
def afu(ro I:AH)(T:Nat)(l:St):Prop:= ∃s:Sl,qb ro I ⟨T,0,none⟩=some (Sl.v s)/\s.len=l.length/\
 ∀(j:Nat) (p:Str×Nd),l[j]?=some p->∃ b d,s.a=some ⟨b,0,none⟩/\(∀(i:Nat) (v:Value),(acr p d)[i]?=some v->qb ro I ⟨b,j*5+i,none⟩=some v)/\SL.qU ro I d (p.2.data.map vU)
def fnd:St->Str->Nat->Int
 | [],_,_=> -1
 | p::r,k,i=>if p.1=k then(i:Int)else fnd r k (i+1)
theorem al6(h:afu ro I T l)(hl:l.length<=4294967296)(hQ:Q (fnd l k 0) I):un B ro (some ⟨T,0,none⟩) (S k) I Q:=by
 refine ahX fun hs=>?_
 unfold ab2
 obtain⟨s,hT,hsl,hrow⟩:=h
 suffices∀m j,j+m=l.length->Q (fnd (l.drop j) k j) I->lfpD (jK B ro (some ⟨T,0,none⟩) (S k) Q) (j:Int) I from this _ 0 (mp _) hQ
 intro m
 induction m with
 | zero=>
  intro j hj hq
  refine lfpD.intro ?_
  unfold jK
  refine⟨_,rfl,s,hT,?_⟩
  rw[mc z6]
  unfold pS
  rw[List.drop_of_length_le z6]at hq
  exact hq
 | succ m ih=>
  intro j hj hq
  have hjl:j<l.length:=by omega
  rw[List.drop_eq_getElem_cons hjl]at hq
  obtain⟨b,d,ha,hc,hd⟩:=hrow j l[j] (mh hjl)
  refine lfpD.intro ?_
  unfold jK
  refine⟨_,rfl,s,hT,?_⟩
  rw[me z6]
  refine⟨_,rfl,s,hT,_,ha,z6,z6,S l[j].1,?_,?_⟩
  .have:=hc 0 _ rfl
   rw[mr,vg,mp];exact this
  unfold fnd at hq
  by_cases c:l[j].1=k
  .rw[me (by rw[yu];exact c)]
   rw[me c]at hq;exact hq
  .rw[mc (by rw[yu];exact c),Pa.inc j z6]
   rw[mc c]at hq
   exact ih (j+1) z6 hq
theorem aik(a:List Str)(q u:Str):kc (a++[q]) u=kc a u+if ws q=some u then 1 else 0:=by
 unfold kc;simp[List.countP_append,List.countP_cons]
theorem ao6(h:afu ro I T l)(hl:l.length<=4294967296)(hQ:Q ((kc (l.map (·.1)) k:Nat):Int) I):abr B ro (some ⟨T,0,none⟩) (S k) I Q:=by
 refine ahu fun hs=>?_
 unfold abB
 obtain⟨s,hT,hsl,hrow⟩:=h
 suffices∀m j,j+m=l.length->lfpD (kx B ro (some ⟨T,0,none⟩) (S k) Q) ((((kc ((l.take j).map (·.1)) k:Nat):Int)),(j:Int)) I from this _ 0 (mp _)
 intro m
 induction m with
 | zero=>
  intro j hj
  refine lfpD.intro ?_
  unfold kx
  simp only
  refine⟨_,rfl,s,hT,?_⟩
  rw[mc z6]
  unfold pq
  rw[mT z6]
  exact hQ
 | succ m ih=>
  intro j hj
  have hjl:j<l.length:=by omega
  obtain⟨b,d,ha,hc,hd⟩:=hrow j l[j] (mh hjl)
  have hkc:kc ((l.take j).map (·.1)) k<=j:=by
   unfold kc
   refine LL List.countP_le_length ?_
   rw[ml,nU];omega
  have etk:(l.take (j+1)).map (·.1)=(l.take j).map (·.1)++[l[j].1]:=by
   rw[np,mh hjl,mJ];try rfl
  refine lfpD.intro ?_
  unfold kx
  simp only
  refine⟨_,rfl,s,hT,?_⟩
  rw[me z6]
  refine⟨_,rfl,s,hT,_,ha,z6,z6,S l[j].1,?_,?_⟩
  .have:=hc 0 _ rfl
   rw[mr,vg,mp];exact this
  have next:∀ c:Int,c=((kc ((l.take (j+1)).map (·.1)) k:Nat):Int)->kw B ro (some ⟨T,0,none⟩) (S k) (j:Int) Q (lfpD (kx B ro (some ⟨T,0,none⟩) (S k) Q)) c I:=fun c hcc=>by
   unfold kw
   rw[Pa.inc j z6,hcc]
   exact ih (j+1) z6
  refine ajz (fun hn=>?_) fun u hu=>?_
  .rw[mc z7]
   rw[L_S]at hn
   exact next _ (by rw[etk,aik,hn];simp)
  .rw[L_S]at hu
   by_cases c:u=k
   .rw[me ⟨rfl,by rw[c]⟩]
    exact next _ (by rw[etk,aik,hu,c,me rfl,Pa.inc _ z6])
   .rw[mc (by rw[yu];exact fun h=>c h.2)]
    exact next _ (by rw[etk,aik,hu,mc (j1 c)];simp)
end Zt
namespace SL
open Go
variable{P:Program}{B:World}{ro I I':AH}{tag tag':Nat->Nat}{L:List Nat}
theorem afR(p:Addr)(i:Nat):(p.add i).block=p.block:=by
 cases i with
 | zero=>rfl
 | succ i=>rfl
end SL
namespace SL
open Go
variable{ro I I':AH}{tag tag':Nat->Nat}
theorem ag1(a b c:AH):join a (join b c)=join (join a b) c:=by
 funext x;unfold join;cases a x<;>rfl
theorem aqr(a b:Nat){K:AH->AH->Prop}(h:K (join (one I a) (one (del I a) b)) (del (del I a) b)):uS I K:=by
 refine⟨_,_,fun c o hc=>?_,?_,h⟩
 .unfold join one del at hc;unfold del
  by_cases e:c=a
  .simp[e]
  .by_cases e':c=b
   .simp[e']
   .simp[e,e']at hc
 .funext c;unfold join one del
  by_cases e:c=a
  .subst e
   cases h:I c<;>simp
  .by_cases e':c=b
   .subst e';cases h:I c<;>simp[e]
   .simp[e,e']
theorem al7{ψ τ:AH}{a:Addr}{v:Value}(h:qb ro (fun _=>none) a=some v):qb (join ro ψ) τ a=some v:=by
 unfold qb rd at h⊢
 cases e:ro a.block with
 | none=>rw[e]at h;simp[wM]at h
 | some o=>rw[e]at h;rw[wX e];exact h
end SL
namespace SL
open Go
variable{ro I I':AH}{tag tag':Nat->Nat}
theorem ag2(b:Nat)(a:Addr):qb (join ro (one I b)) (SL.del I b) a=qb ro I a:=by unfold qb;rw[amR]
theorem akZ{a:Addr}{v:Value}{τ:AH}(h:qb ro I a=some v):qb (join ro (one I a.block)) τ a=some v:=by
 unfold qb rd at h⊢
 unfold join one
 cases e:ro a.block with
 | some o=>rw[e]at h;exact h
 | none=>
  rw[e]at h
  simp only[if_true]
  cases e':I a.block with
  | some o=>rw[e']at h;exact h
  | none=>rw[e']at h;simp[wM]at h
end SL
namespace Zt
open Go SL G Pa
variable{B:World}[Zd B]{ro I I':AH}{tag tag':Nat->Nat}
variable{T j r:Nat}{l:St}{p:Str×Nd}
def je(tag:Nat->Nat)(I:AH)(r T:Nat)(l:St):Prop:= ∃(s:Sl) (ds:List Sl),ds.length=l.length/\Row tag I r 327 ⟨some ⟨T,0,none⟩,1,1⟩ [Sl.v s]/\qH tag I (r+64) 329 5 s (List.zipWith acr l ds)/\
 ∀(i:Nat) (p:Str×Nd) (d:Sl),l[i]?=some p->ds[i]?=some d->Row tag I 6 5 d (p.2.data.map vU)
theorem je.keepS{C:List Nat}(h:je tag I r T l)(k:qi C ro tag I tag' I')(hr:r%64∉C:=by decide)(h6:6∉C:=by decide):je tag' I' r T l:=by
 obtain⟨s,ds,h1,h2,h3,h4⟩:=h
 exact⟨s,ds,h1,h2.keepS k hr,qH.keepS h3 k (by rw[show(r+64)%64=r%64 by omega];exact hr),fun i p d hp hd=>(h4 i p d hp hd).keepS k h6⟩
theorem je.m(h:je tag I r T l)(hs:SL.Sep ro I):afu ro I T l:=by
 obtain⟨s,ds,h1,h2,h3,h4⟩:=h
 obtain⟨p,hp,hg⟩:=h2.ptr hs z7
 cases hp
 have hl:=h3.len
 rw[LK,h1,Pg]at hl
 refine⟨s,by have:=hg 0 _ rfl;rwa [LB,uW]at this,hl,fun j p hj=>?_⟩
 have hjl:j<l.length:=by
  rcases mB j l.length with h | h
  .exact h
  .rw[mw h]at hj;cases hj
 have hd:ds[j]?=some ds[j]:=mh z6
 obtain⟨b,ha,_,hc⟩:=qH.get h3 hs (j:=j) (x:=acr p ds[j]) (by rw[List.getElem?_zipWith,hj,hd])
 exact⟨b,ds[j],ha,hc,(h4 j p _ hj hd).read hs⟩
theorem afu.lent(b:Nat)(h:afu ro I T l):afu (join ro (SL.one I b)) (SL.del I b) T l:=by
 obtain⟨s,h1,h2,h3⟩:=h
 refine⟨s,by rw[ag2];exact h1,h2,fun j p hj=>?_⟩
 obtain⟨c,d,ha,hc,hd⟩:=h3 j p hj
 exact⟨c,d,ha,fun i v hv=>by rw[ag2];exact hc i v hv,hd.lent b⟩
theorem je.blocks(h:je tag I r T l)(hr:r<64)(hj:l[j]?=some p):∃ (s:Sl) (b:Nat),s.a=some ⟨b,0,none⟩/\s.len=l.length/\tag b=r+64/\tag T=r/\(∃o,I b=some o)/\(∃o,I T=some o)/\T≠b/\∀ ro,SL.Sep ro I->qb ro I ⟨T,0,none⟩=some (Sl.v s):=by
 obtain⟨s,ds,h1,h2,h3,h4⟩:=h
 have hl:=h3.len
 rw[LK,h1,Pg]at hl
 obtain⟨tT,oT⟩:=h2.tagOf
 have hjl:j<l.length:=by
  rcases mB j l.length with h | h
  .exact h
  .rw[mw h]at hj;cases hj
 rcases h3 with⟨rfl,_⟩ | ⟨b,cs,ha,ht,hb,hx⟩
 .simp at hl;omega
 .refine⟨s,b,ha,hl,ht,tT,⟨_,hb⟩,oT,fun e=>?_,fun ro hs=>?_⟩
  .rw[<-e]at ht;omega
  .obtain⟨p,hp,hg⟩:=h2.ptr hs z7
   cases hp
   have:=hg 0 _ rfl
   rwa [LB,uW]at this
theorem an7{s:ByteArray}{Q:Sl->Bool->AH->Prop}(r:Nat)(hs:SL.Sep ro I)(hnone:parts (L s)=none->∀ sl tag' I',qd [] ro tag I tag' I'->Q sl false I')
  (hsome:∀ ps,parts (L s)=some ps->∀ sl tag' I',qd [] ro tag I tag' I'->Row tag' I' r 9 sl (ps.map Pa.vS)->Q sl true I'):vO B ro s I Q:=by
 have base:vO B ro s (fun _=>none) (fun sl e I'=>(parts (L s)=none/\e=false)\/∃ ps tag',parts (L s)=some ps/\e=true/\Row tag' I' r 9 sl (ps.map Pa.vS)):=
  Pa.akR (tag:=fun _=>0) r (fun h _ _=> .inl ⟨h,rfl⟩) fun ps h sl tag' I' _ hr=> .inr ⟨ps,tag',h,rfl,hr⟩
 have fr:=ahl (ψ:=I) base (fun b o h=>by cases h)
 have e:join (fun _=>none) I=I:=by funext b;rfl
 rw[e]at fr
 refine ahI fr ?_
 rintro sl ev I' hsep ⟨τ,rfl,hd,hq⟩
 have keep:∀ (tg:Nat->Nat),(∀b,τ b=none->tg b=tag b)->qd [] ro tag I tg (join τ I):=fun tg htg=>by
  have hn:∀ b o,I b=some o->τ b=none:=fun b o ho=>by
   cases h:τ b with
   | none=>rfl
   | some x=>have:=hd b x h;rw[ho]at this;cases this
  refine⟨fun b o ho _=>⟨htg b (hn b o ho),xu hd ho⟩,fun b o ho=>⟨htg b (hn b o ho),o,xu hd ho⟩,hsep⟩
 rcases hq with⟨h,rfl⟩ | ⟨ps,tg,h,rfl,hr⟩
 .exact hnone h sl tag _ (keep tag fun _ _=>rfl)
 .refine hsome ps h sl (fun b=>if(τ b).isSome then tg b else tag b) _ (keep _ fun b hb=>by simp[hb]) ?_
  rcases hr with h | ⟨b,cs,ha,ht,hb,hx⟩
  .exact .inl h
  .exact .inr ⟨b,cs,ha,by simp[hb,ht],by unfold join;rw[hb],hx⟩
theorem al8{k:Str}:∀ (i:Nat),(l.lookup k=none/\fnd l k i= -1)\/∃ j n,l[j]?=some (k,n)/\l.lookup k=some n/\fnd l k i=((i+j:Nat):Int):=by
 induction l with
 | nil=>intro i;exact .inl ⟨rfl,rfl⟩
 | cons p r ih=>
  intro i
  obtain⟨q,n⟩:=p
  by_cases c:q=k
  .subst c
   exact .inr ⟨0,n,rfl,z7,by simp[fnd]⟩
  .have hne:(k == q)=false:=by simpa using fun e=>c e.symm
   rcases ih (i+1)with⟨h1,h2⟩ | ⟨j,n',h1,h2,h3⟩
   .exact .inl ⟨by rw[nA,hne];exact h1,by unfold fnd;rw[mc c];exact h2⟩
   .exact .inr ⟨j+1,n',j1 h1,by rw[nA,hne];exact h2,by unfold fnd;rw[mc c,h3];congr 1;omega⟩
theorem afu.row(h:afu ro I T l)(hj:l[j]?=some p):∃ (s:Sl) (b:Nat) (d:Sl),qb ro I ⟨T,0,none⟩=some (Sl.v s)/\s.len=l.length/\s.a=some ⟨b,0,none⟩/\∀ (i:Nat) (v:Value),(acr p d)[i]?=some v->qb ro I (((⟨b,0,none⟩:Addr).add (Int.toNat (j:Int)*5)).add i)=some v:=by
 obtain⟨s,h1,h2,h3⟩:=h
 obtain⟨b,d,ha,hc,_⟩:=h3 j p hj
 exact⟨s,b,d,h1,h2,ha,fun i v hv=>by rw[mr,vg,vg,mp];exact hc i v hv⟩
theorem afu.len(h:afu ro I T l):∃ s:Sl,qb ro I ⟨T,0,none⟩=some (Sl.v s)/\s.len=l.length:=by
 obtain⟨s,h1,h2,_⟩:=h
 exact⟨s,h1,h2⟩
end Zt
namespace Zt
open Go SL Pa Wi
structure xF where
 nonce:Int
 lease:Int
 beats:Int
 req:Int
 reply:Str
structure jf where
 last:Int
 live:List (Int×xF)
abbrev Tbl:=List (Str×jf)
def okN(n:Int):Bool:=decide (1<=n) && decide (n<=4611686018427387903)
def ky(t:Tbl)(home:Str):jf:=(qS t home).getD ⟨0,[]⟩
def ajK(t:Tbl)(k:Str×Int):Int×Option xF:=match qS t k.1 with
 | none=>(150,none)
 | some h=>if k.2<1\/h.last<k.2 then(150,none)else match qS h.live k.2 with
  | none=>(151,none)
  | some s=>(0,some s)
abbrev xq:=Str×Int
structure xG where
 events:List (Int×Int×Str)
 acked:Int
 last:Int
 marks:List xq
abbrev Hub:=List ((Str×Int)×xG)
def wQ(k:Str×Int)(m:xq):Int:=
 if m.2≠1/\m.2≠2 then 160
 else if parts m.1=none then 20
 else if(kD m.1).getD []≠k.1\/qV k.1=false\/k.2<1\/4611686018427387903<k.2 then 82 else 0
theorem aqs{p h:Str}(hn:qV h=true)(e:(kD p).getD []=h):kD p=some h:=by
 cases hp:kD p with
 | none=>rw[hp]at e;subst e;exact mC hn z8
 | some x=>rw[hp]at e;exact mi some e
theorem aiH{k:Str×Int}{m:xq}(h:wQ k m=0):kD m.1=some k.1/\qV k.1=true/\1<=k.2/\k.2<=4611686018427387903:=by
 unfold wQ at h
 split at h
 .cases h
 .split at h
  .cases h
  .split at h
   .cases h
   .rename_i c
    simp only[not_or,mE,Bool.not_eq_false]at c
    exact⟨aqs c.2.1 c.1,c.2.1,z6,z6⟩
def ji(h:Hub)(k:Str×Int):xG:=(qS h k).getD ⟨[],0,0,[]⟩
def aqt(d:xG)(kind:Int)(p:Str):xG:={d with last:=d.last+1,events:=d.events++[(d.last+1,kind,p)]}
structure Sto where
 epoch:Int
 members:List Int
 tree:St
 tbl:Tbl
 hub:Hub
def ail:List Int->Option Int->Bool
 | [],_=>true
 | m::l,b=>decide (0<=m) && decide (m<=31) && (match b with | none=>true | some x=>decide (x<m)) && ail l (some m)
def zH(l:List Int):Bool:=ail l none && decide (1<=l.length) && decide (l.length<=7)
theorem xH{n:Int}:qY n=true↔0<=n/\n<=4611686018427387903:=by unfold qY;simp
theorem km(r:Rd):(qa r).1<4611686018427387904:=by
 unfold qa
 split
 .show 0<4611686018427387904;omega
 .exact(ajD _).2
theorem vu(r:Rd):qY ((qa r).1:Nat)=true:=by
 have:=km r
 rw[xH];omega
end Zt
namespace SL
open Go
variable{P:Program}{B:World}{ro I I':AH}{tag tag':Nat->Nat}
theorem aiZ(a:Addr)(p i:Nat):(a.add p).add i=a.add (p+i):=by
 cases p with
 | zero=>show a.add i=_;rw[mp]
 | succ p=>
  cases i with
  | zero=>rfl
  | succ i=>
   obtain⟨b,o,s⟩:=a
   cases s with
   | none=>simp[Addr.add];omega
   | some s=>simp[Addr.add];omega
theorem adR.at{w:Nat}{s:Sl}{l:List (List Value)}(h:adR ro I w s l){j:Nat}{x:List Value}(hj:l[j]?=some x):∃ q,s.a=some q/\qB ro I (q.add (j*w)) 0 x:=by
 have hjl:j<l.length:=(List.getElem?_eq_some_iff.1 hj).1
 cases e:s.a with
 | none=>have:=h.2.1 e;subst this;simp at hjl
 | some q=>
  refine⟨q,rfl,wN 0 fun i v hv=>?_⟩
  have hw:=h.2.2.1 x (nY hj)
  have hi:i<w:=by
   have:=(List.getElem?_eq_some_iff.1 hv).1
   omega
  have:=h.2.2.2 q e (j*w+i) v (by rw[aiV h.2.2.1 hj hi];exact hv)
  rw[mp,aiZ];exact this
end SL
namespace Wi
open Go SL G Zt
variable{B:World}[Zd B]{ro I I':AH}{tag tag':Nat->Nat}
variable{K:AH->Prop}{W r:Nat}{a:Str×Bool}
theorem wnum_yes{a:Str}{n:Int}(h:qY n=true):wB (a,false) n=(a++qO n.toNat,false):=by unfold wB;rw[me h]
theorem uQ{a p:Str}(h:p.length<4611686018427387904):wv (a,false) p=(a++ue p,false):=by
 unfold wv
 rw[wnum_yes (by unfold qY;simp;omega),mr]
 unfold ue
 simp
theorem abC(ns:List Int):∀ a:Str×Bool,(ns.foldl wB a).1.length<=a.1.length+9*ns.length:=by
 induction ns with
 | nil=>intro a;simp
 | cons n ns ih=>
  intro a
  have:=ih (wB a n)
  have:=kl a n
  rw[nj,mA];omega
theorem adf(ns:List Int)(h:qP tag I r W a.1 a.2)(hr:r≠1/\r≠0)(hs:SL.Sep ro I)(hl:a.1.length+9*ns.length<=140737488355328)
  (hK:∀ tag' I',qd [r,r+64,1] ro tag I tag' I'->qP tag' I' r W (ns.foldl wB a).1 (ns.foldl wB a).2->K I'):
  nw ro I (.cells (ns.map Zt.vI).toArray 3) fun y I=>qX B ro (some ⟨W,0,none⟩) (⟨some ⟨y,0,none⟩,ns.length,ns.length⟩:Sl) I K:=by
 refine qr (tag:=tag) 0 hs fun y tag1 I1 st1 r1=>?_
 rw[List.size_toArray,ml]at r1
 exact aku (r:=r) (q:=0) (ns:=ns) (a:=a) hr.1 ⟨Ne.symm hr.2,z6,z6⟩ (h.keep (st1 [])) (st1 []).sep hl r1 fun tag2 I2 st2 h2=>hK tag2 I2 ((st1 _).trans st2) h2
theorem ajL(p:Str)(h:qP tag I r W a.1 a.2)(hr:r≠1/\r≠0)(hs:SL.Sep ro I)(hl:a.1.length+9+p.length<=140737488355328)
  (hK:∀ tag' I',qd [r,r+64,1] ro tag I tag' I'->qP tag' I' r W (wv a p).1 (wv a p).2->K I'):
  nw ro I (.cells #[.string (S p)] 9) fun y I=>zE B ro (some ⟨W,0,none⟩) (⟨some ⟨y,0,none⟩,1,1⟩:Sl) I K:=by
 refine qr (tag:=tag) 0 hs fun y tag1 I1 st1 r1=>?_
 exact akW (r:=r) (q:=0) (p:=p) (a:=a) (h.keep (st1 [])) hr.1 ⟨Ne.symm hr.2,z6,z6⟩ (st1 []).sep hl r1 fun tag2 I2 st2 h2=>hK tag2 I2 ((st1 _).trans st2) h2
theorem asx{s:Sl}(p:Str)(h:qP tag I r W a.1 a.2)(hr:r≠1/\r≠0)(hs:SL.Sep ro I)(hl:a.1.length+9+p.length<=140737488355328)
  (hsrc:∀ tag' I',qd [r,r+64,1] ro tag I tag' I'->SL.qU ro I' s (p.map vU)) (hK:∀ tag' I',qd [r,r+64,1] ro tag I tag' I'->qP tag' I' r W (wv a p).1 (wv a p).2->K I'):
  nw ro I (.cells #[Sl.v s] 24) fun y I=>vo B ro (some ⟨W,0,none⟩) (⟨some ⟨y,0,none⟩,1,1⟩:Sl) I K:=by
 have hln:s.len=p.length:=by have:=(hsrc tag I (qd.refl hs)).1;rw[this,ml]
 refine qr (tag:=tag) 0 hs fun y tag1 I1 st1 r1=>?_
 exact akX (r:=r) (q:=0) (p:=p) (a:=a) (h.keep (st1 [])) hr.1 ⟨Ne.symm hr.2,z6,z6⟩ (st1 []).sep hl r1 hln (fun tag2 I2 st2=>hsrc tag2 I2 ((st1 _).trans st2)) fun tag2 I2 st2 h2=>hK tag2 I2 ((st1 _).trans st2) h2
end Wi
namespace Zt
open Go SL Pa Wi
theorem adC{α:Type}{f:Str×Bool->α->Str×Bool}{n:Nat}:∀ (l:List α) (a:Str×Bool),(∀a,∀y∈l,(f a y).1.length<=a.1.length+n)->(l.foldl f a).1.length<=a.1.length+n*l.length
 | [],a,_=>by simp
 | y::l,a,h=>by
  have h1:=adC l (f a y) fun a z hz=>h a z (by simp[hz])
  have h2:=h a y z7
  rw[nj,mA,Nat.mul_add]
  omega
theorem an8{t:Tbl}{k:Str×Int}{e:Int}{s:xF}(h:ajK t k=(e,some s)):e=0/\∃ hs,qS t k.1=some hs/\1<=k.2/\k.2<=hs.last/\qS hs.live k.2=some s:=by
 unfold ajK at h
 split at h
 .cases h
 .rename_i hs e1
  split at h
  .cases h
  .rename_i e2
   split at h
   .cases h
   .rename_i s' e3
    cases h
    exact⟨rfl,hs,e1,z6,z6,e3⟩
theorem aqu{p h:Str}(hh:kD p=some h):p.length<=128:=by
 unfold kD at hh
 split at hh
 .rename_i x r e
  obtain⟨e1,e2⟩:=xZ.1 e
  rw[e1];exact e2.len
 .cases hh
theorem ai0{k:Str×Int}{m:xq}(h:wQ k m=0):m.1.length<=128:=aqu (aiH h).1
theorem ao7{home:Str}(hn:qV home=true):parts (47::home)=some [home]/\ws (47::home)=some [47]/\kD (47::home)=some home:=by
 have hl:=adw hn
 have h1:parts (47::home)=some [home]:=xZ.2 ⟨by simp[mk],⟨z7,fun y hy=>by rw[mK.1 hy];exact hn,by simp[mk];omega⟩⟩
 refine⟨h1,?_,?_⟩
 .unfold ws;rw[h1];try rfl
 .rw[ahW h1];try rfl
theorem aqv{t:Tbl}{k:Str×Int}{h:jf}{s:xF}(h1:qS t k.1=some h)(h2:1<=k.2)(h3:k.2<=h.last)(h4:qS h.live k.2=some s):ajK t k=(0,some s):=by
 unfold ajK
 rw[h1]
 simp only
 rw[mc z6,h4]
def aeO(t:Tbl)(k:Str×Int):Prop:= ∃s,ajK t k=(0,some s)
theorem ad9{t:Tbl}{k:Str×Int}:aeO t k↔∃ h s,qS t k.1=some h/\1<=k.2/\k.2<=h.last/\qS h.live k.2=some s:=by
 constructor
 .rintro⟨s,hs⟩
  obtain⟨_,h,h1,h2,h3,h4⟩:=an8 hs
  exact⟨h,s,h1,h2,h3,h4⟩
 .rintro⟨h,s,h1,h2,h3,h4⟩
  exact⟨s,aqv h1 h2 h3 h4⟩
def al9(l:List Str):List Str:=l.mergeSort fun x y=>decide (x<=y)
theorem ang{l ks:List Str}(hp:ks.Perm l)(hs:ks.Pairwise (· <= ·)):ks=al9 l:=by
 refine List.Perm.eq_of_pairwise (le:=fun a b=>a<=b) (fun a b _ _ h1 h2=>List.le_antisymm h1 h2) hs ?_ (hp.trans (List.mergeSort_perm _ _).symm)
 have:=List.pairwise_mergeSort (le:=fun x y:List UInt8=>decide (x<=y)) (fun a b c h1 h2=>by simp at *;exact List.le_trans h1 h2) (fun a b=>by simp;exact List.le_total a b) l
 unfold al9;simpa using this
def ama(l:List Int):List Int:=l.mergeSort fun x y=>decide (x<=y)
theorem anh{l ks:List Int}(hp:ks.Perm l)(hs:ks.Pairwise (· <= ·)):ks=ama l:=by
 refine List.Perm.eq_of_pairwise (le:=fun a b=>a<=b) (fun a b _ _ h1 h2=>Int.le_antisymm h1 h2) hs ?_ (hp.trans (List.mergeSort_perm _ _).symm)
 have:=List.pairwise_mergeSort (le:=fun x y:Int=>decide (x<=y)) (fun a b c h1 h2=>by simp at *;omega) (fun a b=>by simp;omega) l
 unfold ama;simpa using this
def amb(a b:Str):Int:=if a<b then -1 else if b<a then 1 else 0
def an9(a b:Int):Int:=if a<b then -1 else if b<a then 1 else 0
def wh(a b:Str×Int):Int:=if amb a.1 b.1≠0 then amb a.1 b.1 else an9 a.2 b.2
theorem amc{a b:Str}(h1:¬ a<b)(h2:¬ b<a):a=b:=List.le_antisymm (List.not_lt.1 h2) (List.not_lt.1 h1)
theorem yY{x y:Str×Int}:wh x y<0↔x.1<y.1\/(x.1=y.1/\x.2<y.2):=by
 unfold wh amb
 by_cases h1:x.1<y.1
 .rw[me h1,me z8];simp[h1]
 .rw[mc h1]
  by_cases h2:y.1<x.1
  .rw[me h2,me z8]
   have:x.1≠y.1:=fun e=>by rw[e]at h2;exact List.lt_irrefl _ h2
   simp[h1,this]
  .rw[mc h2,mc z7]
   have e:=amc h1 h2
   unfold an9
   by_cases h3:x.2<y.2
   .rw[me h3];simp[e,h3]
   .rw[mc h3]
    have:¬ (if y.2<x.2 then(1:Int)else 0)<0:=by split<;>omega
    simp[this,h1,h3]
theorem pT{x y z:Str×Int}(h1:wh x y<0)(h2:wh y z<0):wh x z<0:=by
 rw[yY]at*
 rcases h1 with h1 | ⟨h1,h1'⟩
 .rcases h2 with h2 | ⟨h2,h2'⟩
  .exact .inl (List.lt_trans h1 h2)
  .exact .inl (by rw[<-h2];exact h1)
 .rcases h2 with h2 | ⟨h2,h2'⟩
  .exact .inl (by rw[h1];exact h2)
  .exact .inr ⟨h1.trans h2,z6⟩
theorem pU(x:Str×Int):¬ wh x x<0:=by
 rw[yY]
 rintro(h | ⟨_,h⟩)
 .exact List.lt_irrefl _ h
 .omega
theorem ajM(x y:Str×Int):wh x y<0\/x=y\/wh y x<0:=by
 rw[yY,yY]
 by_cases h1:x.1<y.1
 .exact .inl (.inl h1)
 .by_cases h2:y.1<x.1
  .exact .inr (.inr (.inl h2))
  .have e:=amc h1 h2
   rcases Int.lt_trichotomy x.2 y.2 with h | h | h
   .exact .inl (.inr ⟨e,h⟩)
   .exact .inr (.inl (Prod.ext e h))
   .exact .inr (.inr (.inr ⟨e.symm,h⟩))
theorem ag3{x y z:Str×Int}(h1:¬ wh x y<0)(h2:¬ wh y z<0):¬ wh x z<0:=by
 intro h
 rcases ajM x y with a | a | a
 .exact h1 a
 .subst a;exact h2 h
 .exact h2 (pT a h)
def zI(l:List (Str×Int)):List (Str×Int):=l.mergeSort fun x y=> !decide (wh y x<0)
theorem ak0{l l':List (Str×Int)}(h:l.Perm l'):zI l=zI l':=by
 have tr:∀ a b c:Str×Int,(!decide (wh b a<0))=true->(!decide (wh c b<0))=true->(!decide (wh c a<0))=true:=fun a b c h1 h2=>by
  simp only[Bool.not_eq_true',nC]at*
  exact ag3 h2 h1
 have tot:∀ a b:Str×Int,((!decide (wh b a<0)) || (!decide (wh a b<0)))=true:=fun a b=>by
  rw[Bool.or_eq_true,Bool.not_eq_true',Bool.not_eq_true',nC,nC]
  by_cases c:wh b a<0
  .exact .inr fun d=>pU _ (pT c d)
  .exact .inl c
 refine List.Perm.eq_of_pairwise (le:=fun a b=>(!decide (wh b a<0))=true) (fun a b _ _ h1 h2=>?_) (List.pairwise_mergeSort tr tot l) (List.pairwise_mergeSort tr tot l') (((List.mergeSort_perm _ _).trans h).trans (List.mergeSort_perm _ _).symm)
 simp only[Bool.not_eq_true',nC]at h1 h2
 rcases ajM a b with c | c | c
 .exact mC c h2
 .exact c
 .exact mC c h1
def adg(a:Str×Bool):Str:=if a.2=true then []else a.1
theorem amd(a:Str×Bool):(adg a).length<=a.1.length:=by unfold adg;split<;>simp
def aal(a:Str×Bool)(p:Int×xF):Str×Bool:=wv ([p.1,p.2.nonce,p.2.lease,p.2.beats,p.2.req].foldl wB a) p.2.reply
def yZ(h:jf)(n:Int):Int×xF:=(n,(qS h.live n).getD ⟨0,0,0,0,[]⟩)
def yP(a:Str×Bool)(p:Str×jf):Str×Bool:=[p.2.last,(p.2.live.length:Int)].foldl wB (wv a p.1)
def numsH(h:jf):List Int:=ama (h.live.map (·.1))
def uI(a:Str×Bool)(p:Str×jf):Str×Bool:=(numsH p.2).foldl (fun a n=>aal a (yZ p.2 n)) (yP a p)
def adS(t:Tbl):Str×Bool:=wB ([],false) (t.length:Int)
def homesT(t:Tbl):List Str:=al9 (t.map (·.1))
def akv(t:Tbl):Str×Bool:=(homesT t).foldl (fun a k=>uI a (k,ky t k)) (adS t)
def aaF(t:Tbl):Str:=adg (akv t)
def aaX(a:Str×Bool)(e:Int×Int×Str):Str×Bool:=wv (wB a e.2.1) e.2.2
def abb(a:Str×Bool)(m:xq):Str×Bool:=wv (wB a m.2) m.1
def pc(a:Str×Bool)(p:(Str×Int)×xG):Str×Bool:=[p.1.2,p.2.acked,p.2.last].foldl wB (wv a p.1.1)
def abD(a:Str×Bool)(p:(Str×Int)×xG):Str×Bool:=wB (p.2.events.foldl aaX (pc a p)) (p.2.marks.length:Int)
def aam(a:Str×Bool)(p:(Str×Int)×xG):Str×Bool:=(zI p.2.marks).foldl abb (abD a p)
def adT(h:Hub):Str×Bool:=wB ([],false) (h.length:Int)
def kH(h:Hub):List (Str×Int):=zI (h.map (·.1))
def akw(h:Hub):Str×Bool:=(kH h).foldl (fun a k=>aam a (k,ji h k)) (adT h)
def abE(h:Hub):Str:=adg (akw h)
def aeP(s:Sto):Str×Bool:=s.members.foldl wB ([s.epoch,(s.members.length:Int)].foldl wB ([],false))
def ai1(s:Sto):Str×Bool:=[af9 s.tree,aaF s.tbl,abE s.hub].foldl wv (aeP s)
def ahY(s:Sto):Str:=adg (ai1 s)
theorem ao8{a:Str×Bool}{p:Int×xF}(h:p.2.reply.length<=1048576):(aal a p).1.length<=a.1.length+1048630:=by
 have h1:=abC [p.1,p.2.nonce,p.2.lease,p.2.beats,p.2.req] a
 have h2:=vl ([p.1,p.2.nonce,p.2.lease,p.2.beats,p.2.req].foldl wB a) p.2.reply
 simp only[mA,mZ]at h1
 unfold aal;omega
theorem amE(a:Str×Bool)(p:Str×jf)(h:p.1.length<=128):(yP a p).1.length<=a.1.length+155:=by
 have h1:=vl a p.1
 have h2:=abC [p.2.last,(p.2.live.length:Int)] (wv a p.1)
 simp only[mA,mZ]at h2
 unfold yP;omega
structure ag4(t:Tbl):Prop where
 keys:(t.map (·.1)).Nodup
 names:∀ p∈t,p.1.length<=128
 len:t.length<=1048576
 live:∀ p∈t,p.2.live.length<=64
 rng:∀ p∈t,∀y∈p.2.live,0<=y.1/\y.1<=4611686018427387904
 reply:∀ p∈t,∀y∈p.2.live,y.2.reply.length<=1048576
theorem aoa{h:jf}(hr:∀ y∈h.live,y.2.reply.length<=1048576)(n:Int):(yZ h n).2.reply.length<=1048576:=by
 unfold yZ
 cases e:qS h.live n with
 | none=>simp
 | some s=>exact hr _ (yI e)
theorem ak1(h:jf):(numsH h).length=h.live.length:=by
 unfold numsH ama
 rw[(List.mergeSort_perm _ _).length_eq,ml]
theorem adU{a:Str×Bool}{p:Str×jf}(hn:p.1.length<=128)(hl:p.2.live.length<=64)(hr:∀ y∈p.2.live,y.2.reply.length<=1048576)(i:Nat):
  (((numsH p.2).take i).foldl (fun a n=>aal a (yZ p.2 n)) (yP a p)).1.length<=a.1.length+67112475:=by
 have h1:=adC (f:=fun a n=>aal a (yZ p.2 n)) (n:=1048630) ((numsH p.2).take i) (yP a p) fun a n _=>ao8 (aoa hr n)
 have h2:=amE a p hn
 have h3:((numsH p.2).take i).length<=64:=by rw[nU,ak1];omega
 have h4:1048630*((numsH p.2).take i).length<=1048630*64:=nM _ h3
 omega
theorem aqw{t:Tbl}{k:Str}:ky t k=⟨0,[]⟩\/(k,ky t k)∈t:=by
 unfold ky
 cases e:qS t k with
 | none=>exact .inl rfl
 | some h=>exact .inr (yI e)
theorem ajN(t:Tbl):(homesT t).length=t.length:=by
 unfold homesT al9
 rw[(List.mergeSort_perm _ _).length_eq,ml]
theorem ajO{t:Tbl}{k:Str}(h:k∈homesT t):∃ h,(k,h)∈t:=by
 unfold homesT al9 at h
 obtain⟨p,hp,rfl⟩:=my.1 ((List.mergeSort_perm _ _).mem_iff.1 h)
 exact⟨p.2,hp⟩
theorem ahZ{t:Tbl}(w:ag4 t)(j:Nat):(((homesT t).take j).foldl (fun a k=>uI a (k,ky t k)) (adS t)).1.length<=9+67112475*((homesT t).take j).length:=by
 have h1:=adC (f:=fun a k=>uI a (k,ky t k)) (n:=67112475) ((homesT t).take j) (adS t) fun a k hk=>by
  obtain⟨h,hm⟩:=ajO (LF hk)
  have hn:=w.names _ hm
  rcases aqw (t:=t) (k:=k)with e | e
  .rw[e]
   have:=adU (a:=a) (p:=(k,⟨0,[]⟩)) hn z7 (fun y hy=>by cases hy) (numsH ⟨0,[]⟩).length
   rw[List.take_length]at this
   exact this
  .have:=adU (a:=a) (p:=(k,ky t k)) hn (w.live _ e) (w.reply _ e) (numsH (ky t k)).length
   rw[List.take_length]at this
   exact this
 have h2:=kl ([],false) (t.length:Int)
 unfold adS at*
 simp only[mZ]at h2
 omega
theorem ajP{t:Tbl}(w:ag4 t):(aaF t).length<=70372534714369:=by
 have h1:=ahZ w (homesT t).length
 rw[List.take_length,ajN]at h1
 have h2:=amd (akv t)
 have h3:67112475*t.length<=67112475*1048576:=nM _ w.len
 unfold aaF akv at*
 omega
structure ame(h:Hub):Prop where
 keys:(h.map (·.1)).Nodup
 names:∀ p∈h,p.1.1.length<=128
 len:h.length<=1048576
 evs:∀ p∈h,p.2.events.length<=32/\∀ e∈p.2.events,e.2.2.length<=128
 mks:∀ p∈h,p.2.marks.length<=32/\∀ m∈p.2.marks,m.1.length<=128
 nd:∀ p∈h,p.2.marks.Nodup
theorem aqx(a:Str×Bool)(e:Int×Int×Str)(h:e.2.2.length<=128):(aaX a e).1.length<=a.1.length+146:=by
 have:=vl (wB a e.2.1) e.2.2
 have:=kl a e.2.1
 unfold aaX;omega
theorem ao9(a:Str×Bool)(m:xq)(h:m.1.length<=128):(abb a m).1.length<=a.1.length+146:=by
 have:=vl (wB a m.2) m.1
 have:=kl a m.2
 unfold abb;omega
theorem aob(a:Str×Bool)(p:(Str×Int)×xG)(h:p.1.1.length<=128):(pc a p).1.length<=a.1.length+164:=by
 have h1:=vl a p.1.1
 have h2:=abC [p.1.2,p.2.acked,p.2.last] (wv a p.1.1)
 simp only[mA,mZ]at h2
 unfold pc;omega
theorem ah0{a:Str×Bool}{p:(Str×Int)×xG}(hn:p.1.1.length<=128)(he:p.2.events.length<=32/\∀ e∈p.2.events,e.2.2.length<=128)(i:Nat):((p.2.events.take i).foldl aaX (pc a p)).1.length<=a.1.length+4836:=by
 have h1:=adC (f:=aaX) (n:=146) (p.2.events.take i) (pc a p) fun a e h=>aqx a e (he.2 e (LF h))
 have h2:=aob a p hn
 have h3:(p.2.events.take i).length<=32:=by rw[nU];omega
 have h4:146*(p.2.events.take i).length<=146*32:=nM _ h3
 omega
theorem aoc{a:Str×Bool}{p:(Str×Int)×xG}(hn:p.1.1.length<=128)(he:p.2.events.length<=32/\∀ e∈p.2.events,e.2.2.length<=128):(abD a p).1.length<=a.1.length+4845:=by
 have h1:=ah0 (a:=a) hn he p.2.events.length
 rw[List.take_length]at h1
 have:=kl (p.2.events.foldl aaX (pc a p)) (p.2.marks.length:Int)
 unfold abD;omega
theorem ai2{l:List (Str×Int)}{x:Str×Int}:x∈zI l↔x∈l:=(List.mergeSort_perm _ _).mem_iff
theorem ag5(l:List (Str×Int)):(zI l).length=l.length:=(List.mergeSort_perm _ _).length_eq
theorem ai3{a:Str×Bool}{p:(Str×Int)×xG}(hn:p.1.1.length<=128)(he:p.2.events.length<=32/\∀ e∈p.2.events,e.2.2.length<=128)(hm:p.2.marks.length<=32/\∀ m∈p.2.marks,m.1.length<=128)(i:Nat):(((zI p.2.marks).take i).foldl abb (abD a p)).1.length<=a.1.length+9517:=by
 have h1:=adC (f:=abb) (n:=146) ((zI p.2.marks).take i) (abD a p) fun a m h=>ao9 a m (hm.2 m (ai2.1 (LF h)))
 have h2:=aoc (a:=a) hn he
 have h3:((zI p.2.marks).take i).length<=32:=by rw[nU,ag5];omega
 have h4:146*((zI p.2.marks).take i).length<=146*32:=nM _ h3
 omega
theorem arE{h:Hub}{k:Str×Int}:ji h k=⟨[],0,0,[]⟩\/(k,ji h k)∈h:=by
 unfold ji
 cases e:qS h k with
 | none=>exact .inl rfl
 | some d=>exact .inr (yI e)
theorem ak2(h:Hub):(kH h).length=h.length:=by unfold kH;rw[ag5,ml]
theorem ak3{h:Hub}{k:Str×Int}(hk:k∈kH h):∃ d,(k,d)∈h:=by
 unfold kH at hk
 obtain⟨p,hp,rfl⟩:=my.1 (ai2.1 hk)
 exact⟨p.2,hp⟩
theorem ah1{h:Hub}(w:ame h)(j:Nat):(((kH h).take j).foldl (fun a k=>aam a (k,ji h k)) (adT h)).1.length<=9+9517*((kH h).take j).length:=by
 have h1:=adC (f:=fun a k=>aam a (k,ji h k)) (n:=9517) ((kH h).take j) (adT h) fun a k hk=>by
  obtain⟨d,hm⟩:=ak3 (LF hk)
  have hn:=w.names _ hm
  rcases arE (h:=h) (k:=k)with e | e
  .rw[e]
   have:=ai3 (a:=a) (p:=(k,⟨[],0,0,[]⟩)) hn ⟨z7,fun e he=>by cases he⟩ ⟨z7,fun e he=>by cases he⟩ (zI []).length
   rw[List.take_length]at this
   exact this
  .have:=ai3 (a:=a) (p:=(k,ji h k)) hn (w.evs _ e) (w.mks _ e) (zI (ji h k).marks).length
   rw[List.take_length]at this
   exact this
 have h2:=kl ([],false) (h.length:Int)
 unfold adT at*
 simp only[mZ]at h2
 omega
theorem ajQ{h:Hub}(w:ame h):(abE h).length<=9979297801:=by
 have h1:=ah1 w (kH h).length
 rw[List.take_length,ak2]at h1
 have h2:=amd (akw h)
 have h3:9517*h.length<=9517*1048576:=nM _ w.len
 unfold abE akw at*
 omega
structure aod(s:Sto):Prop where
 mem:s.members.length<=1048576
 tree:(af9 s.tree).length<=20000000000
 tbl:ag4 s.tbl
 hub:ame s.hub
theorem ak4{s:Sto}(w:aod s):(aeP s).1.length<=9437202:=by
 have h1:=abC [s.epoch,(s.members.length:Int)] ([],false)
 have h2:=abC s.members ([s.epoch,(s.members.length:Int)].foldl wB ([],false))
 simp only[mA,mZ]at h1
 have:=w.mem
 unfold aeP;omega
theorem aqy{s:Sto}(w:aod s):(ai1 s).1.length<=70500000000000:=by
 have h0:=ak4 w
 have h1:=vl (aeP s) (af9 s.tree)
 have h2:=vl (wv (aeP s) (af9 s.tree)) (aaF s.tbl)
 have h3:=vl (wv (wv (aeP s) (af9 s.tree)) (aaF s.tbl)) (abE s.hub)
 have h4:=w.tree
 have h5:=ajP w.tbl
 have h6:=ajQ w.hub
 unfold ai1
 simp only[nj,Lb]
 omega