import Derived.RangeFuncNested
import Derived.Sort.MapsRangeIn
import Derived.Shelf.SlSortCmp.NoneTotal
import Derived.Ground.SlsfProg
import Derived.Test.YtomdigihapdhnaaGreatDoorProg
import Derived.Test.YtomdigihapdhnaaGreatDoorXP
set_option linter.all false
set_option maxRecDepth 99999
set_option maxHeartbeats 0
open Go.IntKind(i64)
open Go.Proofs.Tryz
namespace Go.Proofs.YtomdigihapdhnaaGreatDoor.SL
open Go
theorem ant{o:Obj}(h:o.isWalk=true):Obj.isCells o=false:=by cases o<;>first | rfl | cases h
section
variable{n:Nat}{P:Program}{B:World}{ro φ I:AH}{N:Nat}
theorem Own.size_of{W W':World}{I1 I2:AH}(h2:Own B ro (uH W I1) I2 W')(hold:∀ b o,I1 b=some o->∃ o',I2 b=some o'):W.heap.size<=W'.heap.size:=by
 rcases nz W.heap.size with h | h
 .omega
 .have hl:W.heap.size - 1<W.heap.size:=by omega
  have hx:W.heap[W.heap.size - 1]?=some W.heap[W.heap.size - 1]:=Array.getElem?_eq_getElem hl
  have:∃ o,W'.heap[W.heap.size - 1]?=some o:=by
   cases hs:I1 (W.heap.size - 1)with
   | none=>exact⟨_,h2.fr _ _ (by unfold uH;rw[hs];exact hx)⟩
   | some o=>obtain⟨o',h'⟩:=hold _ o hs;exact⟨o',(h2.own _ _ h').1⟩
  obtain⟨o,h'⟩:=this
  have:=qw h';omega
theorem ahi[Zd B]{α:Type}{g:Operand}{ps:Array Tmp}{assign body:Code}{Q:Exit->Act->World->Prop}{a:Act}{w:World}{fr:Fr}
  (hn:3<=n) {gf Bs:Nat} (eg:∀ args w,(callFunc gf args).run P w= .ok (.enter gf args) w)
  {encs:α->Array Value} {S Sp:List α->Prop} {M:Nat}
  (hg:qh fr g=some (.func (.func gf) #[] #[.pointer (some ⟨Bs,0,none⟩)]))
  (hseq:SeqStopsK Fence.wide (n - 1) P gf #[.pointer (some ⟨Bs,0,none⟩)] encs KeepsWalks S Sp M w)
  (hps:∀ x,(encs x).size=ps.size) (ho:Own B ro φ I w) (hf:vZ N fr a)
  (J:List α->AH->Prop) (h0:J [] I)
  (hcell:∀ pre I',J pre I'->∀ b o,I' b=some o->Obj.isCells o=true)
  (fr0:α->Fr) (hfr:∀ x,po N [] (fr0 x) (Act.mk ((ps.zip (encs x)).foldl (fun t (p,v)=>t.setIfInBounds p v) a.tmps) []))
  (cs:α->Obj) (hcs:∀ x,Obj.isCells (cs x)=true) (fr1:α->Nat->Fr)
  (hassign:∀ (l:Nat) (pre:List α) (x:α) (I1:AH),J pre I1->
   AWF (Fence.wide.inRound l) (n - 1 - 1) [] P B ro N assign (fun e fr I2=>e= .normal/\∃ y,I1 y=none/\I2=upd I1 y (cs x)/\qg (fr1 x y) fr) (fr0 x) I1)
  (hbody:∀ (l:Nat) (pre:List α) (x:α) (y:Nat) (I1:AH),J pre I1->HLe I1 (upd I1 y (cs x))->ro y=none->pre.length<M->
   AWF (Fence.wide.inRound l) (n - 1 - 1) [] P B ro N body (fun e _ I2=>atk I [] (J (pre++[x])) (upd I1 y (cs x)) e I2) (fr1 x y) (upd I1 y (cs x)))
  (hdone:∀ (D:Nat) (xs:List α) (W:World) (I':AH),φ D=none->ro D=none->S xs->J xs I'->Own B ro (upd φ D (.deferred (some []))) I' W->
   Q .normal {a with defers:={target:= .collected D,args:= #[]}::a.defers} W):
  (Code.rangeFunc g ps assign body).wpIn Fence.wide n P Q a w:=by
 have blkF:∀ {W W':World} {I1 I2:AH},Own B ro (uH W I1) I2 W'->∀ (k:Nat) (o:Obj),W.heap[k]?=some o->I1 k=none->W'.heap[k]?=some o:=fun hO2 k o hk hs=>hO2.fr k o (by unfold uH;rw[hs];exact hk)
 have ncF:∀ {pre:List α} {W:World} {I1:AH},Own B ro φ I1 W->J pre I1->∀ (k:Nat) (o:Obj),W.heap[k]?=some o->o.isCells=false->I1 k=none:=fun{pre W I1} hO hJ k o hk hc=>by
  cases hs:I1 k with
  | none=>rfl
  | some o2=>
   have:=(hO.own k o2 hs).1
   rw[hk]at this;cases this
   rw[hcell pre I1 hJ k o hs]at hc;cases hc
 refine wpIn_rangeFunc_ownH (S:=S) (Sp:=Sp) (N:=M) (w0:=w) (encs:=encs) rfl z6 (hf.agrees _ _ hg) trivial eg hseq
  walksK_t (fun W l o o' hl hW hc hw=>walksK_b (w:=w) W l o o' hl hW hc hw) (Go.RowKit.Below.refl _ _) hps
  (fun pre W=> ∃I',Own B ro φ I' W/\J pre I'/\w.heap.size<=W.heap.size) (fun _ _ _=>False) ?hI (fun _ _ _ _ _ h=>h.elim) ⟨I,ho,h0,mH _⟩
  (fun x a' W=> ∃y,w.heap.size<=y/\W.heap[y]?=some (cs x)/\po N [] (fr1 x y) a') ?hAx ?hassign ?hbody ?hdone ?hstop
 case hI=>
  rintro pre W W' row ⟨I',hO,hJ,hsz⟩ hg hr
  have old:∀ b o,W.heap[b]?=some o->(o.isCells=false->b<w.heap.size)->W'.heap[b]?=W.heap[b]?:=fun b o hb hc=>by
   refine hg.block b (qw hb) fun e=>?_
   obtain⟨h1,o2,h2,h3⟩:=hr b e.symm
   rw[hb]at h2;cases h2
   have:=hc h3;omega
  refine⟨I',hO.keepBlocks hg.os hg.tape hg.output (fun b o e=>?_) (fun b o e=>?_) (fun b o e=>?_),hJ,LL hsz hg.size⟩
  .exact old b o (hO.own b o e).1 fun hc=>by rw[hcell pre I' hJ b o e]at hc;cases hc
  .exact old b o (hO.fr b o e) fun _=>qw (ho.fr b o e)
  .exact old b o (hO.ro b o e) fun _=>qw (ho.ro b o e)
 case hAx=>
  rintro x a' _ W W' row ⟨y,hy1,hy2,hy3⟩ hg hr
  refine⟨y,hy1,?_,hy3⟩
  rw[hg.block y (qw hy2) fun e=>?_]
  .exact hy2
  .obtain⟨h1,o2,h2,h3⟩:=hr y e.symm
   rw[hy2]at h2;cases h2
   rw[hcs x]at h3;cases h3
 case hassign=>
  rintro l pre x W K ⟨I1,hO,hJ,hsz⟩ hK
  refine wpIn_mono (hassign l pre x I1 hJ (uH W I1) W _ hO.all (hfr x)) ?_
  rintro e a' W' ⟨fr',I2,⟨rfl,y,hy,rfl,hle⟩,hO2,hf2⟩
  have hO2':=hO.unall hO2
  have hyW:W.heap.size<=y:=by
   have h1:=(hO2.own y (cs x) (by simp[upd])).2.1
   unfold uH at h1
   rw[hy]at h1
   rcases mB y W.heap.size with h | h
   .simp only at h1;rw[Array.getElem?_eq_getElem h]at h1;cases h1
   .exact h
  have hl1:HLe I1 (upd I1 y (cs x)):=fun b o hb=>by
   unfold upd
   rw[mc (fun e=>by rw[e,hy]at hb;cases hb)]
   exact hb
  have hsz2:=hO2.size_of fun b o hb=>⟨o,hl1 b o hb⟩
  exact hK a' W' ⟨hsz2,fun k o _ ho' hc=>blkF hO2 k o ho' (ncF hO hJ k o ho' hc)⟩ ⟨hsz2,fun k o hk hw=>blkF hO2 k o hk (ncF hO hJ k o hk (ant hw))⟩
   ⟨I1,hO2'.drop hl1,hJ,LL hsz hsz2⟩ ⟨y,z6,(hO2'.own y (cs x) (by simp[upd])).1,hf2.weaken hle⟩
 case hbody=>
  rintro l pre x a' W hl _ ⟨I1,hO,hJ,hsz⟩ ⟨y,hy1,hy2,hy3⟩ hlen
  have nro:ro y=none:=by
   cases e:ro y with
   | none=>rfl
   | some o=>have:=qw (ho.ro y o e);omega
  have nφ:φ y=none:=by
   cases e:φ y with
   | none=>rfl
   | some o=>have:=qw (ho.fr y o e);omega
  have hl1:HLe I1 (upd I1 y (cs x)):=fun b o hb=>by
   unfold upd
   by_cases e:b=y
   .rw[me e]
    have:=(hO.own b o hb).1
    rw[e,hy2]at this;cases this;rfl
   .rw[mc e];exact hb
  have hO1:Own B ro φ (upd I1 y (cs x)) W:=by
   refine⟨hO.os,hO.tape,hO.output,fun b o hb=>?_,hO.fr,hO.ro⟩
   unfold upd at hb
   split at hb
   .rename_i e;subst e;cases hb;exact⟨hy2,nφ,nro⟩
   .exact hO.own b o hb
  refine wpIn_mono (hbody l pre x y I1 hJ hl1 nro hlen (uH W (upd I1 y (cs x))) W _ hO1.all hy3) ?_
  rintro e a2 W' ⟨fr',I2,⟨hn,hold,I3,hle,hJ3⟩,hO2,_⟩
  subst hn
  have hO2':=hO1.unall hO2
  have hsz2:=hO2.size_of hold
  have nc:∀ (k:Nat) (o:Obj),W.heap[k]?=some o->o.isCells=false->upd I1 y (cs x) k=none:=fun k o hk hc=>by
   unfold upd
   by_cases e:k=y
   .rw[e,hy2]at hk;cases hk
    rw[hcs x]at hc;cases hc
   .rw[mc e];exact ncF hO hJ k o hk hc
  exact⟨⟨hsz2,fun k o _ ho' hc=>blkF hO2 k o ho' (nc k o ho' hc)⟩,⟨hsz2,fun k o hk hw=>blkF hO2 k o hk (nc k o hk (ant hw))⟩,I3,hO2'.drop hle,hJ3,LL hsz hsz2⟩
 case hdone=>
  rintro D xs W hD hS ⟨I',hO,hJ,_⟩ hW
  have nD:I' D=none:=by
   cases hs:I' D with
   | none=>rfl
   | some o=>
    have:=(hO.own D o hs).1
    rw[hW]at this;cases this
    have:=hcell xs I' hJ D _ hs
    cases this
  have fD:φ D=none:=by
   cases hs:φ D with
   | none=>rfl
   | some o=>have:=qw (ho.fr D o hs);omega
  have rD:ro D=none:=by
   cases hs:ro D with
   | none=>rfl
   | some o=>have:=qw (ho.ro D o hs);omega
  refine hdone D xs W I' fD rD hS hJ ⟨hO.os,hO.tape,hO.output,fun b o e=>?_,fun b o e=>?_,hO.ro⟩
  .obtain⟨h1,h2,h3⟩:=hO.own b o e
   refine⟨h1,?_,h3⟩
   unfold upd
   rw[mc (fun h=>by subst h;rw[nD]at e;cases e)]
   exact h2
  .unfold upd at e
   split at e
   .rename_i h;subst h;cases e;exact hW
   .exact hO.fr b o e
 case hstop=>
  rintro D c pre W _ _ h _
  exact h.elim
end
end Go.Proofs.YtomdigihapdhnaaGreatDoor.SL
namespace Go.Proofs.YtomdigihapdhnaaGreatDoor.Ky
open Go Go.RowKit Go.Shelf SL
variable{seen:Array Nat}{ss:List (Str×Int)}{k r:Nat}
attribute [local go_sem] Oper.semAt_some
section
variable{F:Fence}{n:Nat}{P:Program}{ops:Array Oper}{Q:Exit->Act->World->Prop}{rest:List Oper}{o:Oper}{a:Act}{w:World}{b:Nat}{es:Array MapEntry}{clock:Nat}
theorem wpl_range(hg:o.guard=none)(m:Operand)(t:TypeId)(hop:o.op=Op.range t m){k e:TypeId}(ht:P.underlying t=some (.map k e))(hm:a.eval m= .map (some b))(hb:w.heap[b]?=some (.map es clock))
  (hK:∀ w':World,w'.heap[w.heap.size]?=some (.mapIter (some b) clock #[] clock)->w'.heap[b]?=some (.map es clock)->w.grownBy w' none->w'.heap.size=w.heap.size+1->wpListIn F n P ops Q rest (a.put o.dst (.pointer (some ⟨w.heap.size,0,none⟩))) w'):
  wpListIn F n P ops Q (o::rest) a w:=by
 refine wpListIn_plain hg fun K' hK'=>?_
 have hrun:=run_range_map w t k e b es clock ht hb
 unfold Oper.wpIn
 refine⟨by simp[Oper.about,hop],?_⟩
 rw[Oper.semAt_plain F _ _ (by rw[hop];intro c hc';cases hc')]
 simp[execOp,hop,hm,hrun,Result.andThen]
 exact hK' _ _ (hK _ (MapKept.heap_alloc w _).1 (((MapKept.heap_alloc w _).2 b (qw hb)).trans hb) (World.grownBy_alloc w _ none) z7)
theorem wpl_next{α:Type}(hg:o.guard=none)(it:Operand)(hop:o.op=Op.next it false)(mkK:α->Value)(invK:∀ e∈es.toList,∃x,e.key=mkK x)(hit:a.eval it= .pointer (some ⟨r,0,none⟩))
  (hr:w.heap[r]?=some (.mapIter (some b) clock seen clock)) (hb:w.heap[b]?=some (.map es clock)) (hbn:acw es clock)
  (hDone:(∀e∈es.toList,seen.contains e.born=true)->wpListIn F n P ops Q rest (a.put o.dst (.tuple #[.bool false])) w)
  (hMore:∀ (x:α) (e:MapEntry) (w':World),e∈es.toList->seen.contains e.born=false->e.key=mkK x->w'.heap[r]?=some (.mapIter (some b) clock (seen.push e.born) clock)->w'.heap[b]?=some (.map es clock)->w'.rangeLeft b r<w.rangeLeft b r->
   w.grownBy w' (some r)->w'.heap.size=w.heap.size->(Instr.entry (.pointer (some ⟨r,0,none⟩))).run P w'= .ok (.tuple #[mkK x,e.val]) w'->wpListIn F n P ops Q rest (a.put o.dst (.tuple #[.bool true,mkK x,e.val])) w'):
  wpListIn F n P ops Q (o::rest) a w:=by
 refine wpListIn_plain hg fun K' hK'=>?_
 unfold Oper.wpIn
 refine⟨by simp[Oper.about,hop],?_⟩
 rw[Oper.semAt_plain F _ _ (by rw[hop];intro c hc';cases hc')]
 have hne:b≠r:=fun h=>by subst h;rw[hr]at hb;cases hb
 rcases run_next_at (P:=P) w o.type r b clock clock seen es clock hr hb hbn.lt (mH _)with⟨h0,hrun⟩ | ⟨e,he,w1,hal,hrun⟩
 .simp[execOp,hop,hit,hrun,Result.andThen]
  exact hK' _ _ (hDone (all_seen es seen h0))
 .obtain⟨hem,hes⟩:=mem_left he
  obtain⟨x,hx⟩:=invK e hem
  have hr1:w1.heap[r]?=some (.mapIter (some b) clock seen clock):=by rcases hal with rfl | rfl<;>exact hr
  have hb1:w1.heap[b]?=some (.map es clock):=by rcases hal with rfl | rfl<;>exact hb
  have hset:=MapKept.heap_set (o':= .mapIter (some b) clock (seen.push e.born) clock) hr1
  have hb':(ChangeMaps.setBlock w1 r (.mapIter (some b) clock (seen.push e.born) clock)).heap[b]?=some (.map es clock):=(hset.2 b hne).trans hb1
  have hen:=run_entry_at (P:=P) _ r b clock seen es clock e hset.1 hb' hem hbn.nd
  simp[execOp,hop,hit,hrun,Result.andThen]
  rw[hx]at hen⊢
  refine hK' _ _ (hMore x e _ hem hes hx hset.1 hb' ?_ ?_ ?_ hen)
  .have h1:(ChangeMaps.setBlock w1 r (.mapIter (some b) clock (seen.push e.born) clock)).heap[r]?=some (.mapIter (some b) clock (seen.push e.born) clock):=hset.1
   simp only[World.rangeLeft,h1,hb',hr,hb]
   exact left_shrinks es seen e he
  .rcases hal with rfl | rfl<;>exact⟨rfl,rfl,rfl,by simp[ChangeMaps.setBlock],fun i _ hi=>hset.2 i (fun e1=>hi (by rw[e1]))⟩
  .rcases hal with rfl | rfl<;>simp[ChangeMaps.setBlock]
end
def Met(z:List (MapEntry×(Str×Int)))(seen:Array Nat)(ss:List (Str×Int)):Prop:=
 ∃D rest:List (MapEntry×(Str×Int)),(D++rest).Perm z/\(∀e∈D,seen.contains e.1.born=true)/\(∀e∈rest,seen.contains e.1.born=false)/\ss=D.map Prod.snd
theorem Met.start(z:List (MapEntry×(Str×Int))):Met z #[] []:=⟨[],z,z7,(fun e h=>by cases h),(fun e _=>by simp),rfl⟩
theorem Met.all{z:List (MapEntry×(Str×Int))}(h:Met z seen ss)(ha:∀ e∈z,seen.contains e.1.born=true):ss.Perm (z.map Prod.snd):=by
 obtain⟨D,rest,h1,h2,h3,rfl⟩:=h
 cases rest with
 | nil=>rw[nN]at h1;exact h1.map _
 | cons y r=>
  have a:=ha y (h1.mem_iff.1 z7)
  rw[h3 y z7]at a;cases a
theorem Met.len{z:List (MapEntry×(Str×Int))}(h:Met z seen ss){y:MapEntry×(Str×Int)}(hy:y∈z)(hn:seen.contains y.1.born=false):ss.length<z.length:=by
 obtain⟨D,rest,h1,h2,h3,rfl⟩:=h
 have hl:=h1.length_eq
 rw[mU]at hl
 have:y∈rest:=by
  rcases mt.1 (h1.mem_iff.2 hy)with h | h
  .rw[h2 y h]at hn;cases hn
  .exact h
 have:=List.length_pos_of_mem this
 rw[ml];omega
theorem Met.step{z:List (MapEntry×(Str×Int))}(h:Met z seen ss)(hnd:(z.map (·.1.born)).Nodup){y:MapEntry×(Str×Int)}(hy:y∈z)(hn:seen.contains y.1.born=false):Met z (seen.push y.1.born) (ss++[y.2]):=by
 obtain⟨D,rest,h1,h2,h3,rfl⟩:=h
 have hin:y∈rest:=by
  rcases mt.1 (h1.mem_iff.2 hy)with h | h
  .rw[h2 y h]at hn;cases hn
  .exact h
 obtain⟨a,b,rfl⟩:=List.append_of_mem hin
 have hp2:(D++y::(a++b)).Perm z:=(List.Perm.append_left D List.perm_middle.symm).trans h1
 have hnd2:=(hp2.map (·.1.born)).nodup_iff.2 hnd
 refine⟨D++[y],a++b,j1 hp2,fun w hw=>?_,fun w hw=>?_,z7⟩
 .rcases mt.1 hw with h | h
  .have:=h2 w h;simp at this ⊢;exact .inl this
  .rw[mK.1 h];simp
 .have h1:seen.contains w.1.born=false:=h3 w (by simp at hw ⊢;rcases hw with h | h<;>simp[h])
  have h2:w.1.born≠y.1.born:=by
   rw[mJ,nx,List.nodup_append]at hnd2
   have:=(Lc.1 hnd2.2.1).1
   intro hh
   exact this (by rw[<-hh];exact my.2 ⟨w,hw,rfl⟩)
  rw[<-nE]at h1⊢
  simp at h1⊢
  exact⟨h1,h2⟩
theorem zipK:∀ {l:List MapEntry} {m:List ((Str×Int)×Value)},l.map jH=m.map (pM kSI)->∃ z:List (MapEntry×(Str×Int)),z.map Prod.fst=l/\z.map Prod.snd=m.map (·.1)/\∀ y∈z,y.1.key=kSI y.2
 | [],m,h=>by
  cases m with
  | nil=>exact⟨[],rfl,rfl,fun y h=>by cases h⟩
  | cons p m=>cases h
 | e::l,m,h=>by
  cases m with
  | nil=>cases h
  | cons p m=>
   simp only[nx,List.cons.injEq]at h
   obtain⟨z,z1,z2,z3⟩:=zipK h.2
   refine⟨(e,p.1)::z,by rw[nx,z1],by rw[nx,z2];try rfl,fun y hy=>?_⟩
   rcases mD.1 hy with rfl | hy
   .exact mi Prod.fst h.1
   .exact z3 y hy
theorem kw_heap{W W':World}{o:Obj}(h:KeepsWalks W W')(hk:W.heap[k]?=some o)(ho:o.isWalk=true):W'.heap[k]?=some o:=h.same k o hk ho
end Go.Proofs.YtomdigihapdhnaaGreatDoor.Ky
namespace Go.Proofs.YtomdigihapdhnaaGreatDoor.G
open Go SL
variable{B:World}{ro I:AH}
abbrev kyV(p:Str×Int):List Value:=[.string (S p.1),.int .i64 p.2]
end Go.Proofs.YtomdigihapdhnaaGreatDoor.G
namespace Go.Proofs.YtomdigihapdhnaaGreatDoor.SL
open Go G
variable{I I':AH}{l:List (List Value)}{b r w:Nat}{tag:Nat->Nat}{s:Sl}{e:TypeId}
theorem Row.up{l:List Value}(h:Row tag I r e s l)(k:HLe I I'):Row tag I' r e s l:=by
 rcases h with h | ⟨b,cs,ha,ht,hb,hx⟩
 .exact .inl h
 .exact .inr ⟨b,cs,ha,ht,k b _ hb,hx⟩
theorem qH.up(h:qH tag I r e w s l)(k:HLe I I'):qH tag I' r e w s l:=by
 rcases h with h | ⟨b,cs,ha,ht,hb,hx⟩
 .exact .inl h
 .exact .inr ⟨b,cs,ha,ht,k b _ hb,hx⟩
def prc(I:AH):AH:=fun b=>match I b with
 | some o=>if o.isCells=true then some o else none
 | none=>none
theorem aj6(I:AH):HLe (prc I) I:=fun b o h=>by
 unfold prc at h
 split at h
 .rename_i x e
  split at h
  .cases h;exact e
  .cases h
 .cases h
theorem anu{o:Obj}(h:prc I b=some o):o.isCells=true:=by
 unfold prc at h
 split at h
 .split at h
  .rename_i hx;cases h;exact hx
  .cases h
 .cases h
theorem Row.prc{l:List Value}(h:Row tag I r e s l):Row tag (SL.prc I) r e s l:=by
 rcases h with h | ⟨b,cs,ha,ht,hs,hx⟩
 .exact .inl h
 .exact .inr ⟨b,cs,ha,ht,by unfold SL.prc;rw[hs];simp[Obj.isCells],hx⟩
theorem qH.prc(h:qH tag I r e w s l):qH tag (SL.prc I) r e w s l:=by
 rcases h with h | ⟨b,cs,ha,ht,hs,hx⟩
 .exact .inl h
 .exact .inr ⟨b,cs,ha,ht,by unfold SL.prc;rw[hs];simp[Obj.isCells],hx⟩
end Go.Proofs.YtomdigihapdhnaaGreatDoor.SL
namespace Go.Proofs.YtomdigihapdhnaaGreatDoor.Zt
open Go SL
variable{ro I:AH}{tag:Nat->Nat}
theorem anv{r gb e:Nat}{v:Value}(h:Row tag I r e ⟨some ⟨gb,0,none⟩,1,1⟩ [v]):∃ ob,I gb=some ob/\wM ⟨gb,0,none⟩ (some ob)=some v:=by
 rcases h with⟨h,_⟩ | ⟨b,cs,ha,ht,hb,hl,hc,hle,hg⟩
 .cases h
 .cases ha
  refine⟨_,hb,?_⟩
  have:=hg 0 z7
  simpa [wM]using this
theorem ahc{b:Nat}{o:Obj}(hs:SL.Sep ro I)(h:I b=some o):join ro I b=some o:=by
 unfold join;rw[hs b o h];exact h
theorem apU{tag1:Nat->Nat}{τ:AH}{r q w:Nat}{e:TypeId}{s:Sl}{l:List (List Value)}(h:qH tag1 τ r e w s l)(hd:qI I τ):qH (fun c=>if(I c).isSome then tag c else q) (join I τ) q e w s l:=by
 rcases h with h | ⟨b,cs,ha,ht,hb,hx⟩
 .exact .inl h
 .have hn:I b=none:=by
   cases e:I b with
   | none=>rfl
   | some o=>rw[hd b o e]at hb;cases hb
  exact .inr ⟨b,cs,ha,by simp[hn],xu hd hb,hx⟩
end Go.Proofs.YtomdigihapdhnaaGreatDoor.Zt
namespace Go.Proofs.YtomdigihapdhnaaGreatDoor.Ky
open Go Go.RowKit Go.Shelf SL
attribute [local go_sem] Oper.semAt_some
theorem keys1(n:Nat)(hn:1<=n)(l Bm b:Nat)(es:Array MapEntry)(clock:Nat)(m:List ((Str×Int)×Value))(hes:es.toList.map jH=m.map (pM kSI))(hbn:acw es clock)(J Jx:List (Str×Int)->World->Prop)
  (hY:∀ pre x W,J pre W->pre.length<m.length->YieldAt Fence.wide (n - 1) prog l #[kSI x] W fun e W'=>
   (e= .returned (.bool true)/\J (pre++[x]) W'/\KeepsWalks W W')\/(e= .returned (.bool false)/\Jx (pre++[x]) W'))
  (W:World) (hJ:AbidesFrom W.heap.size J) (hm:W.cell? ⟨Bm,0,none⟩=some (.map (some b))) (hb:W.heap[b]?=some (.map es clock)) (h0:J [] W):
  CallsIn Fence.wide n prog 258 #[.func (.yield l) #[] #[],.pointer (some ⟨Bm,0,none⟩)] W fun e W'=>(∃v,e= .returned v)/\
   ((∃ss:List (Str×Int),ss.Perm (m.map (·.1))/\J ss W')\/(∃pre:List (Str×Int),True/\Jx pre W')):=by
 obtain⟨z,z1,z2,z3⟩:=zipK hes
 have hnd:(z.map (·.1.born)).Nodup:=by
  have h1:z.map (·.1.born)=(z.map Prod.fst).map (·.born):=by rw[Lj];try rfl
  rw[h1,z1];exact hbn.nd
 have hzl:z.length=m.length:=by have:=mi List.length z2;simpa using this
 have inv:∀ e∈es.toList,∃x:Str×Int,e.key=kSI x:=fun e he=>by
  rw[<-z1]at he
  obtain⟨y,hy,rfl⟩:=my.1 he
  exact⟨y.2,z3 y hy⟩
 have hbl:=qw hb
 refine callsIn_of_wp func258 rfl trivial ?_ rfl
 simp only[ntmps258,List.size_toArray,mA,mZ,Nat.reduceAdd,Nat.reduceSub,Array.replicate_succ,Array.replicate_zero,List.push_toArray,List.append_toArray,nZ,nq]
 gi_wp2_with (first
  | (gi_at_range;refine wpl_range rfl _ _ rfl LO rfl hb ?_;intro w0 hr0 hb0 hg0 hs0)
  | gi_in)
 go_frame
 gi_loopw [3] (fun _ wr=> ∃(seen:Array Nat) (ss:List (Str×Int)),wr.heap[W.heap.size]?=some (.mapIter (some b) clock seen clock)/\wr.heap[b]?=some (.map es clock)/\Met z seen ss/\J ss wr)
  (fun _ wr=>wr.rangeLeft b W.heap.size)
 case atStart=>
  exact⟨#[],[],hr0,hb0,Met.start z,hJ [] W w0 none h0 hg0 (fun r e=>by cases e)⟩
 case round=>
  obtain⟨seen,ss,hrr,hrb,hC,hJs⟩:=hrel
  gi_wp2_with (first
   | (gi_at_next;refine wpl_next rfl _ rfl kSI inv rfl hrr hrb hbn ?_ ?_)
   | gi_in)
  .intro hall
   gi_wp2
   go_end0
   refine⟨⟨_,rfl⟩,.inl ⟨ss,?_,hJs⟩⟩
   rw[<-z2]
   refine hC.all fun y hy=>?_
   have hy1:y.1∈es.toList:=by rw[<-z1];exact my.2 ⟨y,hy,rfl⟩
   simpa using hall y.1 (j1 hy1)
  .intro k1 k2 e w2 he hne hkey hr2 hb2 hlt hg2 hs2 hen
   have he:e∈es.toList:=by simpa using he
   have hne:seen.contains e.born=false:=by simpa using hne
   have hkey:e.key=kSI (k1,k2):=hkey
   obtain⟨y,hy,rfl⟩:∃ y∈z,y.1=e:=by rw[<-z1]at he;obtain⟨y,hy,h⟩:=my.1 he;exact⟨y,hy,h⟩
   have hyx:y.2=(k1,k2):=by
    have:=(z3 y hy).symm.trans hkey
    simp[kSI]at this
    exact Prod.ext (yu.1 this.1) this.2
   have hJ2:J ss w2:=hJ ss wr w2 (some W.heap.size) hJs hg2 (fun r e=>by cases e;exact⟨mH _,_,hrr,rfl⟩)
   have hJ4:J ss (w2.alloc (Obj.cells #[Value.string (S k1),Value.int IntKind.i64 k2] 81)):=hJ ss w2 _ none hJ2 (World.grownBy_alloc w2 _ none) (fun r e=>by cases e)
   have hr4:(w2.alloc (Obj.cells #[Value.string (S k1),Value.int IntKind.i64 k2] 81)).heap[W.heap.size]?=some (.mapIter (some b) clock (seen.push y.1.born) clock):=((MapKept.heap_alloc w2 _).2 _ (qw hr2)).trans hr2
   have hb4:(w2.alloc (Obj.cells #[Value.string (S k1),Value.int IntKind.i64 k2] 81)).heap[b]?=some (.map es clock):=((MapKept.heap_alloc w2 _).2 _ (qw hb2)).trans hb2
   obtain⟨fn,tmps,assign,body,hyl,hR⟩:=hY ss y.2 _ hJ4 (by have:=hC.len hy hne;omega)
   rw[hyx]at hyl
   have hC2:=hC.step hnd hy hne
   have hl4:(w2.alloc (Obj.cells #[Value.string (S k1),Value.int IntKind.i64 k2] 81)).rangeLeft b W.heap.size=w2.rangeLeft b W.heap.size:=by simp only[World.rangeLeft,hr4,hb4,hr2,hb2]
   gi_wp2
   refine hR.mono ?_
   rintro e W3 (⟨rfl,hJ3,hk3⟩ | ⟨rfl,hJx3⟩)
   .gi_wp2
    have hr3:=kw_heap hk3 hr4 rfl
    have hb3:=kw_heap hk3 hb4 rfl
    go_roundw
    case rel=>exact⟨_,ss++[y.2],hr3,hb3,hC2,hJ3⟩
    case measure=>
     have e3:W3.rangeLeft b W.heap.size=w2.rangeLeft b W.heap.size:=by rw[<-hl4];simp only[World.rangeLeft,hr3,hb3,hr4,hb4]
     rw[e3];exact hlt
   .gi_wp2
    refine bodyPost_ret (results_none rfl _ _ _) rfl ?_
    exact⟨⟨_,rfl⟩,.inr ⟨ss++[y.2],trivial,hJx3⟩⟩
theorem keys_stops(n:Nat)(hn:1<=n)(Bm b:Nat)(es:Array MapEntry)(clock:Nat)(m:List ((Str×Int)×Value))(hes:es.toList.map jH=m.map (pM kSI))(hbn:acw es clock)(w:World)(hBm:Bm<w.heap.size)
  (hm:w.cell? ⟨Bm,0,none⟩=some (.map (some b))) (hb:w.heap[b]?=some (.map es clock)):
  SeqStopsK Fence.wide n prog 258 #[.pointer (some ⟨Bm,0,none⟩)] (fun x:Str×Int=> #[kSI x]) KeepsWalks (fun ss=>ss.Perm (m.map (·.1))) (fun _=>True) m.length w:=fun l J Jx W hW hJ _ hY h0=>
 keys1 n hn l Bm b es clock m hes hbn J Jx hY W hJ ((hW.cell (p:=⟨Bm,0,none⟩) hBm).trans hm) ((hW.block b (qw hb)).trans hb) h0
end Go.Proofs.YtomdigihapdhnaaGreatDoor.Ky
namespace Go.Proofs.YtomdigihapdhnaaGreatDoor.G
open Go SL
variable{B:World}{ro I:AH}
def xS(B:World)(ro:AH)(a0 a1:Value)(I:AH)(Q:Sl->AH->Prop):=
 uO B ro a0 I fun u0 I=>
 uB B ro u0 a1 I fun I=>
 Q u0 I
theorem acQ{a0 a1 Q}(h:Sep ro I->xS B ro a0 a1 I Q):xy B ro a0 a1 I Q:=by
 refine zb h func164 ntmps164 fun h=>?_;unfold xS at h;refine zc func215 h ?_;rintro v I ⟨u0,rfl,h⟩;refine zc func216 h ?_;rintro v I ⟨rfl,h⟩;exact zr h
def yr(B:World)(ro:AH)(a0:Option Nat)(I:AH)(Q:Value->AH->Prop):=
 nw ro I (.cells #[.map a0] 308) fun u0 I=>
 Q (.func (.func 217) #[] #[.pointer (some ⟨u0,0,none⟩)]) I
theorem aeg{a0 Q}(h:Sep ro I->yr B ro a0 I Q):aay B ro a0 I Q:=by
 refine zb h func165 ntmps165 fun h=>?_;unfold yr at h;refine zw ?_;refine zAp (wY rfl rfl) h fun u0 h=>?_;refine zm (aq2 rfl rfl rfl) ?_;exact zr h
def xt(B:World)(ro:AH)(a0 a1:Value)(I:AH)(Q:Sl->AH->Prop):=
 uC B ro a0 I fun u0 I=>
 ui B ro u0 a1 I fun I=>
 Q u0 I
theorem acL{a0 a1 Q}(h:Sep ro I->xt B ro a0 a1 I Q):xn B ro a0 a1 I Q:=by
 refine zb h func213 ntmps213 fun h=>?_;unfold xt at h;refine zc func256 h ?_;rintro v I ⟨u0,rfl,h⟩;refine zc func257 h ?_;rintro v I ⟨rfl,h⟩;exact zr h
def uh(B:World)(ro:AH)(a0:Option Nat)(I:AH)(Q:Value->AH->Prop):=
 nw ro I (.cells #[.map a0] 243) fun u0 I=>
 Q (.func (.func 258) #[] #[.pointer (some ⟨u0,0,none⟩)]) I
theorem afG{a0 Q}(h:Sep ro I->uh B ro a0 I Q):aca B ro a0 I Q:=by
 refine zb h func214 ntmps214 fun h=>?_;unfold uh at h;refine zw ?_;refine zAp (wY rfl rfl) h fun u0 h=>?_;refine zm (aq2 rfl rfl rfl) ?_;exact zr h
def jO(B:World)(ro:AH)(a0:Value)(I:AH)(Q:Sl->AH->Prop):=
 jb B ro (⟨none,0,0⟩:Sl) a0 I fun u0 I=>
 Q u0 I
theorem adI{a0 Q}(h:Sep ro I->jO B ro a0 I Q):uO B ro a0 I Q:=by
 refine zb h func215 ntmps215 fun h=>?_;unfold jO at h;refine zc func259 h ?_;rintro v I ⟨u0,rfl,h⟩;exact zr h
def jy(B:World)(ro:AH)(a0:Value)(I:AH)(Q:Sl->AH->Prop):=
 xz B ro (⟨none,0,0⟩:Sl) a0 I fun u0 I=>
 Q u0 I
theorem adn{a0 Q}(h:Sep ro I->jy B ro a0 I Q):uC B ro a0 I Q:=by
 refine zb h func256 ntmps256 fun h=>?_;unfold jy at h;refine zc func306 h ?_;rintro v I ⟨u0,rfl,h⟩;exact zr h
theorem atH:ql prog 178 (Sl.v (⟨none,0,0⟩:Sl)) 1 24:=ql.of y0
def aos(ro:AH)(x:Str×Int)(x2 y:Nat)(I:AH)(Q:AH->Prop):Prop:=
 ∃x8:Sl,qb ro I ⟨x2,0,none⟩=some (Sl.v x8)/\qB ro I ⟨y,0,none⟩ 0 (kyV x)/\
 nw ro I (.cells #[.string (S x.1),.int .i64 x.2] 81) fun z I=>
 awp prog ro (Builtin.append_ #[178,178] 178 #[Sl.v x8,Sl.v (⟨some ⟨z,0,none⟩,1,1⟩:Sl)]) (fun v I=> ∃(x11:Sl),v=Sl.v x11/\
  stN ⟨x2,0,none⟩ (fun I=>Q I) [Sl.v x11] 0 I) I
theorem aot{B:World}[Zd B]{ro:AH}{Bs b:Nat}{m:List ((Str×Int)×Value)}{es:Array MapEntry}{clock:Nat}{ob:Obj}{Q:Sl->AH->Prop}(hB:ro Bs=some ob)(hBc:wM ⟨Bs,0,none⟩ (some ob)=some (.map (some b)))(hM:ro b=some (.map es clock))(hes:es.toList.map jH=m.map (pM kSI))(hbn:acw es clock)
  (J:Nat->List (Str×Int)->AH->Prop) (h0:∀ x2,ro x2=none->J x2 [] (upd (fun _=>none) x2 (.cells #[Sl.v (⟨none,0,0⟩:Sl)] 178)))
  (hcell:∀ x2 pre I',J x2 pre I'->∀ b o,I' b=some o->Obj.isCells o=true)
  (hround:∀ x2 pre x y I1,J x2 pre I1->HLe I1 (upd I1 y (.cells #[.string (S x.1),.int .i64 x.2] 81))->ro y=none->pre.length<m.length->aos ro x x2 y (upd I1 y (.cells #[.string (S x.1),.int .i64 x.2] 81)) fun I2=>(∀b o,upd I1 y (.cells #[.string (S x.1),.int .i64 x.2] 81) b=some o->∃ o',I2 b=some o')/\∃ I3,HLe I3 I2/\J x2 (pre++[x]) I3)
  (hdone:∀ x2 xs I',xs.Perm (m.map (·.1))->J x2 xs I'->∃ so,qb ro I' ⟨x2,0,none⟩=some (Sl.v so)/\Q so I'):
  xz B ro (⟨none,0,0⟩:Sl) (.func (.func 258) #[] #[.pointer (some ⟨Bs,0,none⟩)]) (fun _=>none) Q:=by
 refine qc.of_sep fun hsep=>?_
 refine qc.of_marks (n:=5) (args:=[Sl.v (⟨none,0,0⟩:Sl),.func (.func 258) #[] #[.pointer (some ⟨Bs,0,none⟩)]]) func306 rfl (by rw[ntmps306];simp) ?_
 rw[ntmps306]
 intro φ w a ho hf
 refine ag0 ?_ ho hf
 clear ho hf
 refine AW.reg ?_;refine Ls rfl rfl (agC (wY rfl rfl) fun x2 g1 g2=>?_)
 have hJ0:=h0 x2 g1
 refine Lp (agB rfl rfl) rfl rfl ?_
 refine abl ?_;refine abJ ?_
 intro w a ho hf
 refine wpIn_seq ?_
 refine ag0 ?_ ho hf
 clear ho hf
 refine AW.reg ?_;refine Lp (zZ rfl rfl) rfl rfl ?_
 refine abl ?_;refine abJ ?_
 intro w a ho hf
 refine wpIn_block ?_
 have hBw:w.heap[Bs]?=some ob:=ho.ro Bs _ hB
 have hBl:Bs<w.heap.size:=qw hBw
 have hBm:w.cell? ⟨Bs,0,none⟩=some (.map (some b)):=by rw[cell?_eq,hBw];exact hBc
 have hMw:w.heap[b]?=some (.map es clock):=ho.ro b _ hM
 refine ahi (gf:=258) (Bs:=Bs) z6 (enters_of func258 y0 rfl) rfl (Ky.keys_stops 4 z6 Bs b es clock m hes hbn w hBl hBm hMw) (fun _=>rfl) ho hf (J x2) hJ0 (hcell x2)
  (fun x=>[(7,kSI x),(2,.pointer (some ⟨x2,0,none⟩))]) ?hfr (fun x=> .cells #[.string (S x.1),.int .i64 x.2] 81) (fun _=>rfl) (fun x y=>[(5,.pointer (some ⟨y,0,none⟩)),(2,.pointer (some ⟨x2,0,none⟩))]) ?hassign ?hbody ?hdone
 case hfr=>
  intro x
  have k:=hf.put (d:=some 7) rfl (kSI x)
  have k':=(k.weaken (qg.cons rfl (qg.cons rfl (qg.nil _))):vZ 13 [(7,kSI x),(2,.pointer (some ⟨x2,0,none⟩))] _).d
  have e:((#[7].zip #[kSI x]).foldl (fun t (p,v)=>t.setIfInBounds p v) a.tmps)=a.tmps.setIfInBounds 7 (kSI x):=by simp
  refine⟨?_,rfl,fun i v h=>?_⟩
  .have:=k'.size
   rw[e]
   exact this
  .have:=k'.has i v h
   rw[e]
   exact this
 case hassign=>
  intro l pre x I1 hJ
  refine AWF.reg (adA.round l) rfl ?_
  refine Ls rfl rfl (agC (vw rfl zP) fun y g1 g2=>?_)
  refine Ls rfl rfl (aeh rfl zP rfl rfl rfl rfl ?_)
  refine⟨rfl,rfl,_,_,_,qA _ _ _,by simp[Addr.add,Value.cells],by simp[Addr.add],?_⟩
  refine⟨rfl,rfl,_,_,_,qA _ _ _,by simp[Addr.add,Value.cells],by simp[Addr.add],?_⟩
  unfold stN
  refine abl ?_;refine⟨rfl,y,g2,?_,qg.cons rfl (qg.cons rfl (qg.nil _))⟩
  funext c
  unfold upd
  by_cases e:c=y
  .simp[e]
   rfl
  .simp[e]
 case hbody=>
  intro l pre x y I1 hJ hle hy hlen
  obtain⟨R,hR,h⟩:∃ R:AH->Prop,(∀I2,R I2->(∀b o,upd I1 y (.cells #[.string (S x.1),.int .i64 x.2] 81) b=some o->∃ o',I2 b=some o')/\∃ I3,HLe I3 I2/\J x2 (pre++[x]) I3)/\aos ro x x2 y (upd I1 y (.cells #[.string (S x.1),.int .i64 x.2] 81)) R:=⟨_,fun _ h=>h,hround x2 pre x y I1 hJ hle hy hlen⟩
  clear hround hdone
  refine AWF.mono (Q:=fun e fr I=>e= .normal/\R I) ?_ (fun e fr I ⟨h1,h2⟩=>⟨h1,(hR I h2).1,(hR I h2).2⟩)
  have hO:=adA.round l
  generalize upd I1 y (.cells #[.string (S x.1),.int .i64 x.2] 81)=I2 at h
  unfold aos at h;refine AWF.block ?_
  refine AWF.reg hO rfl ?_
  obtain⟨x8,hc,hc2,h⟩:=h
  refine Ls rfl rfl (wU rfl Le rfl rfl hc ?_)
  refine Ls rfl rfl (jz rfl mN rfl zP rfl hc2 ?_)
  refine Ls rfl rfl (agC (wS (vs:=[(0,.agg #[.string (S x.1),.int .i64 x.2])]) (cs:= #[.string (S x.1),.int .i64 x.2]) rfl Le zP z8 rfl rfl) fun z g1 g2=>?_)
  replace h:=h z g1 g2
  refine Ls rfl rfl (yt (s:=Builtin.append_ #[178,178] 178 #[Sl.v x8,Sl.v (⟨some ⟨z,0,none⟩,1,1⟩:Sl)]) rfl rfl (fun _=>rfl) (qj _ h ?_))
  rintro v I ⟨x11,rfl,h⟩;refine Ls rfl rfl (aeh rfl atH rfl rfl rfl rfl (pZ h fun I h=>?_))
  refine abl ?_;exact ae3 ⟨rfl,h⟩
 case hdone=>
  intro D xs W I' fD rD hS hJ hO
  obtain⟨so,hc,hq⟩:=hdone x2 xs I' hS hJ
  show Code.wpIn _ _ _ _ _ _ _
  refine wpIn_mono ((?hT:AWF Fence.wide 5 [{target:= .collected D,args:= #[]}] prog B ro 13 _ (fun e fr I=>e= .ret/\SL.look fr 4=some (Sl.v so)/\Q so I) [(2,.pointer (some ⟨x2,0,none⟩))] I') _ W _ hO ⟨hf.size,?hd,fun i v h=>hf.has i v ?hl⟩) ?hp
  case hT=>
   refine AWF.seq ?_
   refine AWF.reg adA.wide rfl ?_
   refine Ls rfl rfl (wU rfl Le rfl rfl hc ?_)
   refine Lp (agB rfl rfl) rfl rfl ?_
   refine abl ?_;refine abJ ?_;exact AWF.ret ⟨rfl,rfl,hq⟩
  case hd=>rw[hf.defers]
  case hl=>exact(qg.cons rfl (qg.nil _):qg [(2,.pointer (some ⟨x2,0,none⟩))] _) i v h
  case hp=>
   rintro e a' W' ⟨fr',I2,⟨rfl,hl,hq⟩,hO2,hf2⟩
   exact al5 (Q:=fun v I=> ∃(r0:Sl),v=Sl.v r0/\Q r0 I) hf2 fD rD hO2 (ap3 (R:=fun v I=> ∃(r0:Sl),v=Sl.v r0/\Q r0 I) results306 hl ⟨so,rfl,hq⟩)
end Go.Proofs.YtomdigihapdhnaaGreatDoor.G
namespace Go.Proofs.YtomdigihapdhnaaGreatDoor.Zt
open Go SL G
variable{B:World}[Zd B]{ro:AH}
theorem aou{Bs b:Nat}{m:List ((Str×Int)×Value)}{es:Array MapEntry}{clock:Nat}{ob:Obj}{Q:Sl->AH->Prop}(hB:ro Bs=some ob)(hBc:wM ⟨Bs,0,none⟩ (some ob)=some (.map (some b)))(hM:ro b=some (.map es clock))(hes:es.toList.map jH=m.map (pM kSI))(hbn:acw es clock)(hml:m.length<=1048576)
  (hQ:∀ (xs:List (Str×Int)) s tag' I',xs.Perm (m.map (·.1))->SL.Sep ro I'->qH tag' I' 22 81 2 s (xs.map kyV)->Q s I'):
  xz B ro (⟨none,0,0⟩:Sl) (.func (.func 258) #[] #[.pointer (some ⟨Bs,0,none⟩)]) (fun _=>none) Q:=by
 refine aot hB hBc hM hes hbn (fun x2 pre I=> ∃tag s,SL.Sep ro I/\(∀b o,I b=some o->Obj.isCells o=true)/\qH tag I 22 81 2 s (pre.map kyV)/\Row tag I 9 178 ⟨some ⟨x2,0,none⟩,1,1⟩ [Sl.v s]) (fun x2 hx=>?_) (fun x2 pre I' h=>?_) (fun x2 pre x y I1 h hle hy hlen=>?_) fun x2 xs I' hp h=>?_
 .have st:=qd.fresh (tag:=fun _=>0) (r:=9) (o:= .cells #[Sl.v (⟨none,0,0⟩:Sl)] 178) (R:=[]) (ro:=ro) (I:=fun _=>none) Sep.none hx rfl
  refine⟨SL.setTag (fun _=>0) x2 9,⟨none,0,0⟩,st.sep,fun b o h=>?_,qH.nil _ _ _,.inr ⟨x2,_,rfl,by simp[SL.setTag],qA _ _ _,rfl,rfl,z7,fun i hi=>?_⟩⟩
  .unfold upd at h
   split at h
   .cases h;rfl
   .cases h
  .simp
 .obtain⟨_,_,_,h,_⟩:=h
  exact h
 .obtain⟨tag,s,hs,hc,hr,hx⟩:=h
  have hs1:SL.Sep ro (upd I1 y (.cells #[.string (S x.1),.int .i64 x.2] 81)):=fun b o h=>by
   unfold upd at h
   split at h
   .rename_i e;rw[e];exact hy
   .exact hs b o h
  have hr1:=qH.up hr hle
  have hx1:=Row.up hx hle
  have hyc:∀ i v,(kyV x)[i]?=some v->qb ro (upd I1 y (.cells #[.string (S x.1),.int .i64 x.2] 81)) ((⟨y,0,none⟩:Addr).add i)=some v:=fun i v hv=>by
   unfold qb SL.rd
   rw[SL.afR]
   simp only[hy,qA]
   simp only[wM,Addr.add,mp]
   rw[mc (by split<;>simp)]
   match i,hv with
   | 0,hv=>exact hv
   | 1,hv=>exact hv
  generalize upd I1 y (.cells #[.string (S x.1),.int .i64 x.2] 81)=I2 at hs1 hr1 hx1 hyc
  unfold aos
  refine⟨s,Row.cell1 hx1 hs1,wN 0 fun i v hv=>by rw[mp];exact hyc i v hv,?_⟩
  refine qr (tag:=tag) 0 hs1 fun z tag3 I3 st3 r3=>?_
  refine acb (l2:=[kyV x]) (qH.keep hr1 (st3 [])) (st3 []).sep (Row.readW1 r3 (st3 []).sep rfl z8) (t:=178) y0 zP rfl (by simp[qk]) y6 z8 fun sn tag4 I4 st4 r4=>?_
  have st4':=st4 [22] (.inr z7)
  refine⟨sn,rfl,?_⟩
  refine((hx1.keep (st3 [])).keep st4').st (i:=0) st4'.sep rfl z7 rfl fun I5 st5 r5=>?_
  have k:=((st3 [22,9]).trans (st4'.mono z7)).trans (st5.mono z7)
  refine⟨fun b o hb=>(k.old b o hb).2,SL.prc I5,aj6 I5,tag4,sn,fun b o hb=>st5.sep b o (aj6 I5 b o hb),fun b o hb=>anu hb,?_,Row.prc r5⟩
  rw[mJ]
  exact qH.prc (qH.keep r4 st5)
 .obtain⟨tag,s,hs,hc,hr,hx⟩:=h
  exact⟨s,Row.cell1 hx hs,hQ xs s tag I' hp hs hr⟩
end Go.Proofs.YtomdigihapdhnaaGreatDoor.Zt
namespace Go.Proofs
open YtomdigihapdhnaaGreatDoor
open Go.Shelf
def amJ:Go.Shelf.Ren:=⟨fun | 6=>257 | 15=>241 | 14=>307 | 28=>287 | 29=>288 | 20=>351 | 21=>352 | 22=>353 | 23=>354 | 24=>355 | 25=>356 | 26=>357 | 27=>358 | 46=>384 | 47=>326 | 48=>327 | 49=>385 | 50=>386 | 57=>397 | n=>n,fun | 22=>178 | 24=>81 | 25=>321 | 3=>3 | 39=>399 | 0=>0 | 53=>462 | 55=>464 | 4=>4 | 46=>456 | 45=>455 | 50=>300 | 5=>5 | 9=>9 | 66=>496 | 70=>500 | 76=>534 | 77=>344 | n=>n,fun | n=>n⟩
theorem anw:Go.Proofs.SlLaysF0.n6 prog amJ:={
 mixed:=by kernel_rfl
 f6:=⟨f257.name,z8,func257.trans (congrArg some y0)⟩
 f14:=⟨f307.name,z8,func307.trans (congrArg some y0)⟩
 f15:=func241.trans (congrArg some y0)
 f20:=⟨f351.name,z8,func351.trans (congrArg some y0)⟩
 f21:=⟨f352.name,z8,func352.trans (congrArg some y0)⟩
 f22:=⟨f353.name,z8,func353.trans (congrArg some y0)⟩
 f23:=⟨f354.name,z8,func354.trans (congrArg some y0)⟩
 f24:=⟨f355.name,z8,func355.trans (congrArg some y0)⟩
 f25:=⟨f356.name,z8,func356.trans (congrArg some y0)⟩
 f26:=⟨f357.name,z8,func357.trans (congrArg some y0)⟩
 f27:=⟨f358.name,z8,func358.trans (congrArg some y0)⟩
 f28:=func287.trans (congrArg some y0)
 f29:=func288.trans (congrArg some y0)
 f46:=⟨f384.name,z8,func384.trans (congrArg some y0)⟩
 f47:=func326.trans (congrArg some y0)
 f48:=func327.trans (congrArg some y0)
 f49:=⟨f385.name,z8,func385.trans (congrArg some y0)⟩
 f50:=⟨f386.name,z8,func386.trans (congrArg some y0)⟩
 f57:=⟨f397.name,z8,func397.trans (congrArg some y0)⟩
 t0:=underlying0
 a0:=isAgg0
 z0:=sizeOf0
 v0:=zeroValue0
 t3:=underlying3
 a3:=isAgg3
 z3:=sizeOf3
 v3:=zeroValue3
 t4:=underlying4
 a4:=isAgg4
 z4:=sizeOf4
 v4:=zeroValue4
 t5:=underlying5
 a5:=isAgg5
 z5:=sizeOf5
 v5:=zeroValue5
 t9:=underlying9
 a9:=isAgg9
 z9:=sizeOf9
 v9:=zeroValue9
 t22:=underlying178
 a22:=isAgg178
 z22:=sizeOf178
 v22:=zeroValue178
 t25:=underlying321
 a25:=isAgg321
 z25:=sizeOf321
 v25:=zeroValue321
 t39:=underlying399
 a39:=isAgg399
 z39:=sizeOf399
 v39:=zeroValue399
 t45:=underlying455
 a45:=isAgg455
 z45:=sizeOf455
 v45:=zeroValue455
 t46:=underlying456
 a46:=isAgg456
 z46:=sizeOf456
 v46:=zeroValue456
 t50:=underlying300
 a50:=isAgg300
 z50:=sizeOf300
 v50:=zeroValue300
 t53:=underlying462
 a53:=isAgg462
 z53:=sizeOf462
 v53:=zeroValue462
 t55:=underlying464
 a55:=isAgg464
 z55:=sizeOf464
 v55:=zeroValue464
 t66:=underlying496
 a66:=isAgg496
 z66:=sizeOf496
 v66:=zeroValue496
 t70:=underlying500
 a70:=isAgg500
 z70:=sizeOf500
 v70:=zeroValue500
 t76:=underlying534
 a76:=isAgg534
 z76:=sizeOf534
 v76:=zeroValue534
 t77:=underlying344
 a77:=isAgg344
 z77:=sizeOf344
 v77:=zeroValue344}
def amK:Go.Shelf.Ren:=⟨fun | 6=>216 | 15=>241 | 14=>260 | 28=>287 | 29=>288 | 20=>308 | 21=>309 | 22=>310 | 23=>311 | 24=>312 | 25=>313 | 26=>314 | 27=>315 | 46=>359 | 47=>326 | 48=>327 | 49=>360 | 50=>361 | 57=>387 | n=>n,fun | 22=>311 | 24=>314 | 25=>318 | 3=>3 | 39=>399 | 0=>0 | 53=>462 | 55=>464 | 4=>4 | 46=>456 | 45=>455 | 50=>300 | 5=>5 | 9=>9 | 66=>496 | 70=>500 | 76=>534 | 77=>344 | n=>n,fun | n=>n⟩
theorem anx:Go.Proofs.SlLaysF0.n6 prog amK:={
 mixed:=by kernel_rfl
 f6:=⟨f216.name,z8,func216.trans (congrArg some y0)⟩
 f14:=⟨f260.name,z8,func260.trans (congrArg some y0)⟩
 f15:=func241.trans (congrArg some y0)
 f20:=⟨f308.name,z8,func308.trans (congrArg some y0)⟩
 f21:=⟨f309.name,z8,func309.trans (congrArg some y0)⟩
 f22:=⟨f310.name,z8,func310.trans (congrArg some y0)⟩
 f23:=⟨f311.name,z8,func311.trans (congrArg some y0)⟩
 f24:=⟨f312.name,z8,func312.trans (congrArg some y0)⟩
 f25:=⟨f313.name,z8,func313.trans (congrArg some y0)⟩
 f26:=⟨f314.name,z8,func314.trans (congrArg some y0)⟩
 f27:=⟨f315.name,z8,func315.trans (congrArg some y0)⟩
 f28:=func287.trans (congrArg some y0)
 f29:=func288.trans (congrArg some y0)
 f46:=⟨f359.name,z8,func359.trans (congrArg some y0)⟩
 f47:=func326.trans (congrArg some y0)
 f48:=func327.trans (congrArg some y0)
 f49:=⟨f360.name,z8,func360.trans (congrArg some y0)⟩
 f50:=⟨f361.name,z8,func361.trans (congrArg some y0)⟩
 f57:=⟨f387.name,z8,func387.trans (congrArg some y0)⟩
 t0:=underlying0
 a0:=isAgg0
 z0:=sizeOf0
 v0:=zeroValue0
 t3:=underlying3
 a3:=isAgg3
 z3:=sizeOf3
 v3:=zeroValue3
 t4:=underlying4
 a4:=isAgg4
 z4:=sizeOf4
 v4:=zeroValue4
 t5:=underlying5
 a5:=isAgg5
 z5:=sizeOf5
 v5:=zeroValue5
 t9:=underlying9
 a9:=isAgg9
 z9:=sizeOf9
 v9:=zeroValue9
 t22:=underlying311
 a22:=isAgg311
 z22:=sizeOf311
 v22:=zeroValue311
 t25:=underlying318
 a25:=isAgg318
 z25:=sizeOf318
 v25:=zeroValue318
 t39:=underlying399
 a39:=isAgg399
 z39:=sizeOf399
 v39:=zeroValue399
 t45:=underlying455
 a45:=isAgg455
 z45:=sizeOf455
 v45:=zeroValue455
 t46:=underlying456
 a46:=isAgg456
 z46:=sizeOf456
 v46:=zeroValue456
 t50:=underlying300
 a50:=isAgg300
 z50:=sizeOf300
 v50:=zeroValue300
 t53:=underlying462
 a53:=isAgg462
 z53:=sizeOf462
 v53:=zeroValue462
 t55:=underlying464
 a55:=isAgg464
 z55:=sizeOf464
 v55:=zeroValue464
 t66:=underlying496
 a66:=isAgg496
 z66:=sizeOf496
 v66:=zeroValue496
 t70:=underlying500
 a70:=isAgg500
 z70:=sizeOf500
 v70:=zeroValue500
 t76:=underlying534
 a76:=isAgg534
 z76:=sizeOf534
 v76:=zeroValue534
 t77:=underlying344
 a77:=isAgg344
 z77:=sizeOf344
 v77:=zeroValue344}
end Go.Proofs
namespace Go.Proofs.YtomdigihapdhnaaGreatDoor.Zt
open Go SL G Pa Go.Shelf Go.RowKit Go.Sort
variable{B:World}{ro I I':AH}{tag tag':Nat->Nat}
variable{φ:AH}{Q:AH->Prop}{cs:Array Value}{l:List (Str×Int)}{b e q:Nat}{s:Sl}{w:World}
theorem aov:∀ (l:List (Str×Int)) (i:Nat),(l.map kyV).flatten[i]?=(l[i / 2]?).bind fun x=>(kyV x)[i%2]?
 | [],i=>by simp
 | x::l,0=>rfl
 | x::l,1=>rfl
 | x::l,i+2=>by
  have h:=aov l i
  rw[show(i+2) / 2=i / 2+1 by omega,show(i+2)%2=i%2 by omega]
  simpa using h
theorem alc(l:List (Str×Int))(i:Nat)(v:Value)(h:(l.map kyV).flatten[i]?=some v):i<l.length*2/\(flatK kyV 2 l.toArray)[i]! =v:=by
 rw[aov]at h
 have hi:i / 2<l.length:=by
  rcases mB (i / 2) l.length with h1 | h1
  .exact h1
  .rw[mw h1]at h;cases h
 have hl:i<l.length*2:=by omega
 refine⟨hl,?_⟩
 rw[get_flatK kyV 2 l.toArray i (j1 hl)]
 rw[mh hi]at h
 have e:l.toArray[i / 2]! =l[i / 2]:=by simp[hi]
 rw[e]
 have h:(kyV l[i / 2])[i%2]?=some v:=h
 rw[List.getElem!_eq_getElem?_getD,h];try rfl
theorem amt:zI []=[]:=by simp[zI]
theorem asK:SWO (ltOf wh) where
 irrefl x:=by unfold ltOf;exact mL (pU x)
 trans x y z h1 h2:=by unfold ltOf at *;exact mF (pT (nJ h1) (nJ h2))
 ntrans x y z h1 h2:=by unfold ltOf at *;exact mL (ag3 (of_decide_eq_false h1) (of_decide_eq_false h2))
theorem asL(x y:Str×Int)(h1:ltOf wh x y=false)(h2:ltOf wh y x=false):x=y:=by
 unfold ltOf at h1 h2
 rcases ajM x y with h | h | h
 .exact mC h (of_decide_eq_false h1)
 .exact h
 .exact mC h (of_decide_eq_false h2)
theorem aia{W w':World}{I':AH}(h:SL.Own W (fun _=>none) (fun b=>W.heap[b]?) I' w'):∃ q os',w'=grow (W.drewN q) os':=by
 have hb:∀ k,k<W.heap.size->w'.heap[k]?=W.heap[k]?:=fun k hk=>by
  rw[Array.getElem?_eq_getElem hk];exact h.fr k _ (Array.getElem?_eq_getElem hk)
 have hsz:W.heap.size<=w'.heap.size:=by
  rcases nz W.heap.size with h0 | h0
  .omega
  .have h1:=h.fr (W.heap.size - 1) _ (Array.getElem?_eq_getElem z6)
   have:=qw h1
   omega
 refine⟨w'.drawn - W.drawn,w'.heap.extract W.heap.size w'.heap.size,?_⟩
 have e:w'.heap=W.heap++w'.heap.extract W.heap.size w'.heap.size:=by
  apply Array.ext_getElem?
  intro k
  rw[Array.getElem?_append]
  split
  .rename_i hk;exact hb k hk
  .rename_i hk
   rw[Array.getElem?_extract]
   by_cases h2:k<w'.heap.size
   .rw[me z6];congr 1;omega
   .rw[mc z6,Array.getElem?_eq_none z6]
 have d:W.drawn+(w'.drawn - W.drawn)=w'.drawn:=by have:=h.os.2;omega
 cases w' with
 | mk heap tape drawn os output=>
  unfold grow World.drewN
  simp only at e d
  simp only[World.mk.injEq]
  exact⟨e,h.tape,d.symm,h.os.1,h.output⟩
theorem anz(W:World):SL.Own W (fun _=>none) (fun b=>W.heap[b]?) (fun _=>none) W:=
 ⟨⟨rfl,mH _⟩,rfl,rfl,(fun _ _ e=>by cases e),(fun _ _ e=>e),(fun _ _ e=>by cases e)⟩
theorem ar2(blk off size:Nat)(w:World):CmpLays prog 169 #[] kyV 2 wh blk off size w:=fun m os dk _ x y=>by
 generalize sortWorldK kyV 2 w blk off m dk os=W
 refine(amr (B:=W) (ro:=fun _=>none) (I:=fun _=>none) (a:=x) (b:=y) (Q:=fun r _=>r=wh x y) (fun _=>rfl) (fun b=>W.heap[b]?) W (anz W)).mono ?_
 rintro e w' ⟨v,I',he,⟨r,rfl,rfl⟩,ho⟩
 exact⟨he,aia ho⟩
theorem aqX(blk off size:Nat)(w:World):CmpLays prog 166 #[] kyV 2 wh blk off size w:=fun m os dk _ x y=>by
 generalize sortWorldK kyV 2 w blk off m dk os=W
 refine(ala (B:=W) (ro:=fun _=>none) (I:=fun _=>none) (a:=x) (b:=y) (Q:=fun r _=>r=wh x y) (fun _=>rfl) (fun b=>W.heap[b]?) W (anz W)).mono ?_
 rintro e w' ⟨v,I',he,⟨r,rfl,rfl⟩,ho⟩
 exact⟨he,aia ho⟩
theorem aj7{n len cap:Nat}{os:Array Obj}(ho:SL.Own B ro φ I w)(hs:SL.Sep ro I)(ht:tag b=q)(hb:I b=some (.cells cs e))(hlen:len=l.length)(hcs:cs.size=cap*2)(hle:len<=cap):
  ∃I',SL.Own B ro φ I' (sortWorldK kyV 2 w b 0 n (zI l).toArray os)/\qd [q] ro tag I tag I'/\qH tag I' q e 2 ⟨some ⟨b,0,none⟩,len,cap⟩ ((zI l).map kyV):=by
 have hw:=(ho.own b _ hb).1
 have hbl:=qw hw
 have hsl:=ag5 l
 refine⟨SL.upd I b (.cells (putCells id 0 (flatK kyV 2 (zI l).toArray) cs) e),?_,?_,?_⟩
 .have hh:∀ i,(sortWorldK kyV 2 w b 0 n (zI l).toArray os).heap[i]?=if i<w.heap.size then(if b=i then some (.cells (putCells id 0 (flatK kyV 2 (zI l).toArray) cs) e)else w.heap[i]?)else os[i - w.heap.size]?:=fun i=>by
   show((w.heap.modify b (onCells (putCells id 0 (flatK kyV 2 (zI l).toArray))))++os)[i]?=_
   rw[Array.getElem?_append,Array.size_modify]
   split
   .rw[Array.getElem?_modify]
    split
    .rename_i h;subst h;rw[hw];try rfl
    .rfl
   .rfl
  have old:∀ i o,i≠b->w.heap[i]?=some o->(sortWorldK kyV 2 w b 0 n (zI l).toArray os).heap[i]?=some o:=fun i o hi h=>by
   rw[hh,me (qw h),mc (Ne.symm hi)];exact h
  have nb:∀ {τ:AH} {o:Obj},τ b=none->∀ i,τ i=some o->i≠b:=fun h i hi e=>by rw[e,h]at hi;cases hi
  have hφ:=(ho.own b _ hb).2.1
  have hro:=(ho.own b _ hb).2.2
  refine⟨⟨ho.os.1,LL ho.os.2 (Nat.le_add_right w.drawn n)⟩,ho.tape,ho.output,fun i o hi=>?_,fun i o hi=>old i o (nb hφ i hi) (ho.fr i o hi),fun i o hi=>old i o (nb hro i hi) (ho.ro i o hi)⟩
  unfold SL.upd at hi
  split at hi
  .rename_i h;subst h;cases hi
   exact⟨by rw[hh,me hbl,me rfl],hφ,hro⟩
  .rename_i h
   obtain⟨a1,a2,a3⟩:=ho.own i o hi
   exact⟨old i o h a1,a2,a3⟩
 .exact yk hs ht hb
 .refine .inr ⟨b,_,rfl,ht,qA _ _ _,by simp[hsl,hlen],by simp[putCells,hcs],hle,fun x hx=>?_,fun i v hv=>?_⟩
  .obtain⟨y,_,rfl⟩:=my.1 hx;rfl
  .obtain⟨h1,h2⟩:=alc _ _ _ hv
   have hic:i<cs.size:=by omega
   unfold putCells
   rw[Array.getElem?_mapIdx,Array.getElem?_eq_getElem hic,Option.map_some,me y6]
   simp only[Nat.sub_zero,id]
   rw[h2]
theorem ald(ho:SL.Own B ro φ I w)(hb:I b=some (.cells cs e))(hg:∀ (i:Nat) (v:Value),(l.map kyV).flatten[i]?=some v->cs[i]?=some v):HoldsK kyV 2 w b 0 l.toArray:=fun j hj=>by
 have hw:=(ho.own b _ hb).1
 have hj:j<l.length*2:=by simpa using hj
 have hi:j / 2<l.length:=by omega
 have hx:(l.map kyV).flatten[j]?=some ((flatK kyV 2 l.toArray)[j]!):=by
  have e1:(l.map kyV).flatten[j]?=some ((kyV l[j / 2])[j%2]!):=by
   rw[aov,mh hi]
   show(kyV l[j / 2])[j%2]?=_
   have:j%2<2:=LQ _ z8
   rcases(by omega:j%2=0\/j%2=1)with h | h<;>rw[h]<;>rfl
  rw[e1,(alc l j _ e1).2]
 refine⟨?_,?_⟩
 .rw[cell?_eq,hw]
  have e2:cs[0+j]?=some ((flatK kyV 2 l.toArray)[j]!):=by rw[mp];exact hg j _ hx
  simp only[wM]
  first | exact e2 | (rw[e2];try rfl) | simpa using e2
 .unfold World.frozen?
  rw[hw];simp
theorem aow(h:qH tag I q 81 2 s (l.map kyV))(hs:SL.Sep ro I)(hl:l.length<=1048576)
  (hQ:∀ I',qd [q] ro tag I tag I'->qH tag I' q 81 2 s ((zI l).map kyV)->Q I'):ui B ro s (.func (.func 169) #[] #[]) I Q:=by
 rcases h with⟨rfl,hl0⟩ | ⟨b,cs,ha,ht,hb,hlen,hcs,hle,hw,hg⟩
 .have e:l=[]:=by simpa using hl0
  subst e
  intro φ w ho
  refine(AnyF.slices_SortFunc_none anw none 0 _ w).mono ?_
  rintro e w' ⟨rfl,rfl⟩
  exact⟨_,I,rfl,⟨rfl,hQ I (qd.refl hs) (by rw[amt];exact qH.nil _ _ _)⟩,ho⟩
 .obtain⟨sa,sl,sc⟩:=s
  simp only at ha hlen hcs hle
  subst ha
  rw[ml]at hlen
  intro φ w ho
  have hc:=AnyQ.slices_SortFunc_total anw 2 isAgg81 sizeOf81 kyV (fun _=>rfl) (fun x v hv=>by simp at hv;rcases hv with rfl | rfl<;>rfl) wh asK 169 #[] b 0 sc l.toArray w (enters_of func169 y0 rfl) (ar2 b 0 _ w) (ald ho hb hg) (ho.lt hb) y6 asL
  have e:l.toArray.size=sl:=by simp[hlen]
  rw[e]at hc
  refine hc.mono ?_
  rintro e w' ⟨rfl,n,os,rfl⟩
  obtain⟨I',h1,h2,h3⟩:=aj7 (n:=n) (os:=os) (l:=l) ho hs ht hb hlen hcs hle
  exact⟨_,I',rfl,⟨rfl,hQ I' h2 h3⟩,h1⟩
theorem amL(h:qH tag I q 314 2 s (l.map kyV))(hs:SL.Sep ro I)(hl:l.length<=1048576)
  (hQ:∀ I',qd [q] ro tag I tag I'->qH tag I' q 314 2 s ((zI l).map kyV)->Q I'):uB B ro s (.func (.func 166) #[] #[]) I Q:=by
 rcases h with⟨rfl,hl0⟩ | ⟨b,cs,ha,ht,hb,hlen,hcs,hle,hw,hg⟩
 .have e:l=[]:=by simpa using hl0
  subst e
  intro φ w ho
  refine(AnyF.slices_SortFunc_none anx none 0 _ w).mono ?_
  rintro e w' ⟨rfl,rfl⟩
  exact⟨_,I,rfl,⟨rfl,hQ I (qd.refl hs) (by rw[amt];exact qH.nil _ _ _)⟩,ho⟩
 .obtain⟨sa,sl,sc⟩:=s
  simp only at ha hlen hcs hle
  subst ha
  rw[ml]at hlen
  intro φ w ho
  have hc:=AnyQ.slices_SortFunc_total anx 2 isAgg314 sizeOf314 kyV (fun _=>rfl) (fun x v hv=>by simp at hv;rcases hv with rfl | rfl<;>rfl) wh asK 166 #[] b 0 sc l.toArray w (enters_of func166 y0 rfl) (aqX b 0 _ w) (ald ho hb hg) (ho.lt hb) y6 asL
  have e:l.toArray.size=sl:=by simp[hlen]
  rw[e]at hc
  refine hc.mono ?_
  rintro e w' ⟨rfl,n,os,rfl⟩
  obtain⟨I',h1,h2,h3⟩:=aj7 (n:=n) (os:=os) (l:=l) ho hs ht hb hlen hcs hle
  exact⟨_,I',rfl,⟨rfl,hQ I' h2 h3⟩,h1⟩
end Go.Proofs.YtomdigihapdhnaaGreatDoor.Zt
namespace Go.Proofs.YtomdigihapdhnaaGreatDoor.Zt
open Go SL G Pa
variable{B:World}[Zd B]{ro I I':AH}{tag tag':Nat->Nat}
theorem amu{gb M r:Nat}{m:List ((Str×Int)×Value)}{Q:Sl->AH->Prop}(q:Nat)(hs:SL.Sep ro I)(hg:Row tag I 0 243 ⟨some ⟨gb,0,none⟩,1,1⟩ [.map (some M)])(hm:wy kSI tag I r M m)(hl:m.length<=1048576)
  (hQ:∀ s tag' I',(∀R,qd R ro tag I tag' I')->qH tag' I' q 81 2 s ((zI (m.map (·.1))).map kyV)->Q s I'):
  xn B ro (.func (.func 258) #[] #[.pointer (some ⟨gb,0,none⟩)]) (.func (.func 169) #[] #[]) I Q:=by
 obtain⟨es,clock,hb,hes,hbn⟩:=hm.obj
 obtain⟨ob,hob,hobc⟩:=anv hg
 refine adE ?_
 refine qc.mono (acL (B:=B) (ro:=join ro I) (I:=fun _=>none) (Q:=fun s τ=> ∃tag1,qH tag1 τ 22 81 2 s ((zI (m.map (·.1))).map kyV)) fun _=>?_) ?_
 .unfold xt
  refine adn fun _=>?_
  unfold jy
  refine aou (ahc hs hob) hobc (ahc hs hb) hes hbn hl fun xs s tag1 I1 hp hs1 hr=>?_
  have hxl:xs.length=m.length:=by rw[hp.length_eq,ml]
  refine aow hr hs1 z6 fun I2 st2 r2=>⟨tag1,?_⟩
  rw[ak0 hp]at r2
  exact r2
 .rintro v τ ⟨s,rfl,tag1,hr⟩ hsep hd
  refine⟨s,rfl,hQ s (fun c=>if(I c).isSome then tag c else q) (join I τ) (fun R=>⟨fun b o hb _=>⟨by simp[hb],wX hb⟩,fun b o hb=>⟨by simp[hb],o,wX hb⟩,fun b o hb=>?_⟩) (apU hr hd)⟩
  rcases pJ hb with h | ⟨_,h⟩
  .exact hs b o h
  .exact(jD (hsep b o h)).1
end Go.Proofs.YtomdigihapdhnaaGreatDoor.Zt
namespace Go.Proofs.YtomdigihapdhnaaGreatDoor.Ky
open Go Go.RowKit Go.Shelf SL
attribute [local go_sem] Oper.semAt_some
theorem keys1m(n:Nat)(hn:1<=n)(l Bm b:Nat)(es:Array MapEntry)(clock:Nat)(m:List ((Str×Int)×Value))(hes:es.toList.map jH=m.map (pM kSI))(hbn:acw es clock)(J Jx:List (Str×Int)->World->Prop)
  (hY:∀ pre x W,J pre W->pre.length<m.length->YieldAt Fence.wide (n - 1) prog l #[kSI x] W fun e W'=>
   (e= .returned (.bool true)/\J (pre++[x]) W'/\KeepsWalks W W')\/(e= .returned (.bool false)/\Jx (pre++[x]) W'))
  (W:World) (hJ:AbidesFrom W.heap.size J) (hm:W.cell? ⟨Bm,0,none⟩=some (.map (some b))) (hb:W.heap[b]?=some (.map es clock)) (h0:J [] W):
  CallsIn Fence.wide n prog 217 #[.func (.yield l) #[] #[],.pointer (some ⟨Bm,0,none⟩)] W fun e W'=>(∃v,e= .returned v)/\
   ((∃ss:List (Str×Int),ss.Perm (m.map (·.1))/\J ss W')\/(∃pre:List (Str×Int),True/\Jx pre W')):=by
 obtain⟨z,z1,z2,z3⟩:=zipK hes
 have hnd:(z.map (·.1.born)).Nodup:=by
  have h1:z.map (·.1.born)=(z.map Prod.fst).map (·.born):=by rw[Lj];try rfl
  rw[h1,z1];exact hbn.nd
 have hzl:z.length=m.length:=by have:=mi List.length z2;simpa using this
 have inv:∀ e∈es.toList,∃x:Str×Int,e.key=kSI x:=fun e he=>by
  rw[<-z1]at he
  obtain⟨y,hy,rfl⟩:=my.1 he
  exact⟨y.2,z3 y hy⟩
 have hbl:=qw hb
 refine callsIn_of_wp func217 rfl trivial ?_ rfl
 simp only[ntmps217,List.size_toArray,mA,mZ,Nat.reduceAdd,Nat.reduceSub,Array.replicate_succ,Array.replicate_zero,List.push_toArray,List.append_toArray,nZ,nq]
 gi_wp2_with (first
  | (gi_at_range;refine wpl_range rfl _ _ rfl Pd rfl hb ?_;intro w0 hr0 hb0 hg0 hs0)
  | gi_in)
 go_frame
 gi_loopw [3] (fun _ wr=> ∃(seen:Array Nat) (ss:List (Str×Int)),wr.heap[W.heap.size]?=some (.mapIter (some b) clock seen clock)/\wr.heap[b]?=some (.map es clock)/\Met z seen ss/\J ss wr)
  (fun _ wr=>wr.rangeLeft b W.heap.size)
 case atStart=>
  exact⟨#[],[],hr0,hb0,Met.start z,hJ [] W w0 none h0 hg0 (fun r e=>by cases e)⟩
 case round=>
  obtain⟨seen,ss,hrr,hrb,hC,hJs⟩:=hrel
  gi_wp2_with (first
   | (gi_at_next;refine wpl_next rfl _ rfl kSI inv rfl hrr hrb hbn ?_ ?_)
   | gi_in)
  .intro hall
   gi_wp2
   go_end0
   refine⟨⟨_,rfl⟩,.inl ⟨ss,?_,hJs⟩⟩
   rw[<-z2]
   refine hC.all fun y hy=>?_
   have hy1:y.1∈es.toList:=by rw[<-z1];exact my.2 ⟨y,hy,rfl⟩
   simpa using hall y.1 (j1 hy1)
  .intro k1 k2 e w2 he hne hkey hr2 hb2 hlt hg2 hs2 hen
   have he:e∈es.toList:=by simpa using he
   have hne:seen.contains e.born=false:=by simpa using hne
   have hkey:e.key=kSI (k1,k2):=hkey
   obtain⟨y,hy,rfl⟩:∃ y∈z,y.1=e:=by rw[<-z1]at he;obtain⟨y,hy,h⟩:=my.1 he;exact⟨y,hy,h⟩
   have hyx:y.2=(k1,k2):=by
    have:=(z3 y hy).symm.trans hkey
    simp[kSI]at this
    exact Prod.ext (yu.1 this.1) this.2
   have hJ2:J ss w2:=hJ ss wr w2 (some W.heap.size) hJs hg2 (fun r e=>by cases e;exact⟨mH _,_,hrr,rfl⟩)
   have hJ4:J ss (w2.alloc (Obj.cells #[Value.string (S k1),Value.int IntKind.i64 k2] 314)):=hJ ss w2 _ none hJ2 (World.grownBy_alloc w2 _ none) (fun r e=>by cases e)
   have hr4:(w2.alloc (Obj.cells #[Value.string (S k1),Value.int IntKind.i64 k2] 314)).heap[W.heap.size]?=some (.mapIter (some b) clock (seen.push y.1.born) clock):=((MapKept.heap_alloc w2 _).2 _ (qw hr2)).trans hr2
   have hb4:(w2.alloc (Obj.cells #[Value.string (S k1),Value.int IntKind.i64 k2] 314)).heap[b]?=some (.map es clock):=((MapKept.heap_alloc w2 _).2 _ (qw hb2)).trans hb2
   obtain⟨fn,tmps,assign,body,hyl,hR⟩:=hY ss y.2 _ hJ4 (by have:=hC.len hy hne;omega)
   rw[hyx]at hyl
   have hC2:=hC.step hnd hy hne
   have hl4:(w2.alloc (Obj.cells #[Value.string (S k1),Value.int IntKind.i64 k2] 314)).rangeLeft b W.heap.size=w2.rangeLeft b W.heap.size:=by simp only[World.rangeLeft,hr4,hb4,hr2,hb2]
   gi_wp2
   refine hR.mono ?_
   rintro e W3 (⟨rfl,hJ3,hk3⟩ | ⟨rfl,hJx3⟩)
   .gi_wp2
    have hr3:=kw_heap hk3 hr4 rfl
    have hb3:=kw_heap hk3 hb4 rfl
    go_roundw
    case rel=>exact⟨_,ss++[y.2],hr3,hb3,hC2,hJ3⟩
    case measure=>
     have e3:W3.rangeLeft b W.heap.size=w2.rangeLeft b W.heap.size:=by rw[<-hl4];simp only[World.rangeLeft,hr3,hb3,hr4,hb4]
     rw[e3];exact hlt
   .gi_wp2
    refine bodyPost_ret (results_none rfl _ _ _) rfl ?_
    exact⟨⟨_,rfl⟩,.inr ⟨ss++[y.2],trivial,hJx3⟩⟩
theorem keys_stopsm(n:Nat)(hn:1<=n)(Bm b:Nat)(es:Array MapEntry)(clock:Nat)(m:List ((Str×Int)×Value))(hes:es.toList.map jH=m.map (pM kSI))(hbn:acw es clock)(w:World)(hBm:Bm<w.heap.size)
  (hm:w.cell? ⟨Bm,0,none⟩=some (.map (some b))) (hb:w.heap[b]?=some (.map es clock)):
  SeqStopsK Fence.wide n prog 217 #[.pointer (some ⟨Bm,0,none⟩)] (fun x:Str×Int=> #[kSI x]) KeepsWalks (fun ss=>ss.Perm (m.map (·.1))) (fun _=>True) m.length w:=fun l J Jx W hW hJ _ hY h0=>
 keys1m n hn l Bm b es clock m hes hbn J Jx hY W hJ ((hW.cell (p:=⟨Bm,0,none⟩) hBm).trans hm) ((hW.block b (qw hb)).trans hb) h0
end Go.Proofs.YtomdigihapdhnaaGreatDoor.Ky
namespace Go.Proofs.YtomdigihapdhnaaGreatDoor.G
open Go SL
variable{B:World}{ro I:AH}
theorem atI:ql prog 311 (Sl.v (⟨none,0,0⟩:Sl)) 1 24:=ql.of y0
def alM(ro:AH)(x:Str×Int)(x2 y:Nat)(I:AH)(Q:AH->Prop):Prop:=
 ∃x8:Sl,qb ro I ⟨x2,0,none⟩=some (Sl.v x8)/\qB ro I ⟨y,0,none⟩ 0 (kyV x)/\
 nw ro I (.cells #[.string (S x.1),.int .i64 x.2] 314) fun z I=>
 awp prog ro (Builtin.append_ #[311,311] 311 #[Sl.v x8,Sl.v (⟨some ⟨z,0,none⟩,1,1⟩:Sl)]) (fun v I=> ∃(x11:Sl),v=Sl.v x11/\
  stN ⟨x2,0,none⟩ (fun I=>Q I) [Sl.v x11] 0 I) I
theorem aox{B:World}[Zd B]{ro:AH}{Bs b:Nat}{m:List ((Str×Int)×Value)}{es:Array MapEntry}{clock:Nat}{ob:Obj}{Q:Sl->AH->Prop}(hB:ro Bs=some ob)(hBc:wM ⟨Bs,0,none⟩ (some ob)=some (.map (some b)))(hM:ro b=some (.map es clock))(hes:es.toList.map jH=m.map (pM kSI))(hbn:acw es clock)
  (J:Nat->List (Str×Int)->AH->Prop) (h0:∀ x2,ro x2=none->J x2 [] (upd (fun _=>none) x2 (.cells #[Sl.v (⟨none,0,0⟩:Sl)] 311)))
  (hcell:∀ x2 pre I',J x2 pre I'->∀ b o,I' b=some o->Obj.isCells o=true)
  (hround:∀ x2 pre x y I1,J x2 pre I1->HLe I1 (upd I1 y (.cells #[.string (S x.1),.int .i64 x.2] 314))->ro y=none->pre.length<m.length->alM ro x x2 y (upd I1 y (.cells #[.string (S x.1),.int .i64 x.2] 314)) fun I2=>(∀b o,upd I1 y (.cells #[.string (S x.1),.int .i64 x.2] 314) b=some o->∃ o',I2 b=some o')/\∃ I3,HLe I3 I2/\J x2 (pre++[x]) I3)
  (hdone:∀ x2 xs I',xs.Perm (m.map (·.1))->J x2 xs I'->∃ so,qb ro I' ⟨x2,0,none⟩=some (Sl.v so)/\Q so I'):
  jb B ro (⟨none,0,0⟩:Sl) (.func (.func 217) #[] #[.pointer (some ⟨Bs,0,none⟩)]) (fun _=>none) Q:=by
 refine qc.of_sep fun hsep=>?_
 refine qc.of_marks (n:=5) (args:=[Sl.v (⟨none,0,0⟩:Sl),.func (.func 217) #[] #[.pointer (some ⟨Bs,0,none⟩)]]) func259 rfl (by rw[ntmps259];simp) ?_
 rw[ntmps259]
 intro φ w a ho hf
 refine ag0 ?_ ho hf
 clear ho hf
 refine AW.reg ?_;refine Ls rfl rfl (agC (wY rfl rfl) fun x2 g1 g2=>?_)
 have hJ0:=h0 x2 g1
 refine Lp (agB rfl rfl) rfl rfl ?_
 refine abl ?_;refine abJ ?_
 intro w a ho hf
 refine wpIn_seq ?_
 refine ag0 ?_ ho hf
 clear ho hf
 refine AW.reg ?_;refine Lp (zZ rfl rfl) rfl rfl ?_
 refine abl ?_;refine abJ ?_
 intro w a ho hf
 refine wpIn_block ?_
 have hBw:w.heap[Bs]?=some ob:=ho.ro Bs _ hB
 have hBl:Bs<w.heap.size:=qw hBw
 have hBm:w.cell? ⟨Bs,0,none⟩=some (.map (some b)):=by rw[cell?_eq,hBw];exact hBc
 have hMw:w.heap[b]?=some (.map es clock):=ho.ro b _ hM
 refine ahi (gf:=217) (Bs:=Bs) z6 (enters_of func217 y0 rfl) rfl (Ky.keys_stopsm 4 z6 Bs b es clock m hes hbn w hBl hBm hMw) (fun _=>rfl) ho hf (J x2) hJ0 (hcell x2)
  (fun x=>[(7,kSI x),(2,.pointer (some ⟨x2,0,none⟩))]) ?hfr (fun x=> .cells #[.string (S x.1),.int .i64 x.2] 314) (fun _=>rfl) (fun x y=>[(5,.pointer (some ⟨y,0,none⟩)),(2,.pointer (some ⟨x2,0,none⟩))]) ?hassign ?hbody ?hdone
 case hfr=>
  intro x
  have k:=hf.put (d:=some 7) rfl (kSI x)
  have k':=(k.weaken (qg.cons rfl (qg.cons rfl (qg.nil _))):vZ 13 [(7,kSI x),(2,.pointer (some ⟨x2,0,none⟩))] _).d
  have e:((#[7].zip #[kSI x]).foldl (fun t (p,v)=>t.setIfInBounds p v) a.tmps)=a.tmps.setIfInBounds 7 (kSI x):=by simp
  refine⟨?_,rfl,fun i v h=>?_⟩
  .have:=k'.size
   rw[e]
   exact this
  .have:=k'.has i v h
   rw[e]
   exact this
 case hassign=>
  intro l pre x I1 hJ
  refine AWF.reg (adA.round l) rfl ?_
  refine Ls rfl rfl (agC (vw rfl ko) fun y g1 g2=>?_)
  refine Ls rfl rfl (aeh rfl ko rfl rfl rfl rfl ?_)
  refine⟨rfl,rfl,_,_,_,qA _ _ _,by simp[Addr.add,Value.cells],by simp[Addr.add],?_⟩
  refine⟨rfl,rfl,_,_,_,qA _ _ _,by simp[Addr.add,Value.cells],by simp[Addr.add],?_⟩
  unfold stN
  refine abl ?_;refine⟨rfl,y,g2,?_,qg.cons rfl (qg.cons rfl (qg.nil _))⟩
  funext c
  unfold upd
  by_cases e:c=y
  .simp[e]
   rfl
  .simp[e]
 case hbody=>
  intro l pre x y I1 hJ hle hy hlen
  obtain⟨R,hR,h⟩:∃ R:AH->Prop,(∀I2,R I2->(∀b o,upd I1 y (.cells #[.string (S x.1),.int .i64 x.2] 314) b=some o->∃ o',I2 b=some o')/\∃ I3,HLe I3 I2/\J x2 (pre++[x]) I3)/\alM ro x x2 y (upd I1 y (.cells #[.string (S x.1),.int .i64 x.2] 314)) R:=⟨_,fun _ h=>h,hround x2 pre x y I1 hJ hle hy hlen⟩
  clear hround hdone
  refine AWF.mono (Q:=fun e fr I=>e= .normal/\R I) ?_ (fun e fr I ⟨h1,h2⟩=>⟨h1,(hR I h2).1,(hR I h2).2⟩)
  have hO:=adA.round l
  generalize upd I1 y (.cells #[.string (S x.1),.int .i64 x.2] 314)=I2 at h
  unfold alM at h;refine AWF.block ?_
  refine AWF.reg hO rfl ?_
  obtain⟨x8,hc,hc2,h⟩:=h
  refine Ls rfl rfl (wU rfl LI rfl rfl hc ?_)
  refine Ls rfl rfl (jz rfl nt rfl ko rfl hc2 ?_)
  refine Ls rfl rfl (agC (wS (vs:=[(0,.agg #[.string (S x.1),.int .i64 x.2])]) (cs:= #[.string (S x.1),.int .i64 x.2]) rfl LI ko z8 rfl rfl) fun z g1 g2=>?_)
  replace h:=h z g1 g2
  refine Ls rfl rfl (yt (s:=Builtin.append_ #[311,311] 311 #[Sl.v x8,Sl.v (⟨some ⟨z,0,none⟩,1,1⟩:Sl)]) rfl rfl (fun _=>rfl) (qj _ h ?_))
  rintro v I ⟨x11,rfl,h⟩;refine Ls rfl rfl (aeh rfl atI rfl rfl rfl rfl (pZ h fun I h=>?_))
  refine abl ?_;exact ae3 ⟨rfl,h⟩
 case hdone=>
  intro D xs W I' fD rD hS hJ hO
  obtain⟨so,hc,hq⟩:=hdone x2 xs I' hS hJ
  show Code.wpIn _ _ _ _ _ _ _
  refine wpIn_mono ((?hT:AWF Fence.wide 5 [{target:= .collected D,args:= #[]}] prog B ro 13 _ (fun e fr I=>e= .ret/\SL.look fr 4=some (Sl.v so)/\Q so I) [(2,.pointer (some ⟨x2,0,none⟩))] I') _ W _ hO ⟨hf.size,?hd,fun i v h=>hf.has i v ?hl⟩) ?hp
  case hT=>
   refine AWF.seq ?_
   refine AWF.reg adA.wide rfl ?_
   refine Ls rfl rfl (wU rfl LI rfl rfl hc ?_)
   refine Lp (agB rfl rfl) rfl rfl ?_
   refine abl ?_;refine abJ ?_;exact AWF.ret ⟨rfl,rfl,hq⟩
  case hd=>rw[hf.defers]
  case hl=>exact(qg.cons rfl (qg.nil _):qg [(2,.pointer (some ⟨x2,0,none⟩))] _) i v h
  case hp=>
   rintro e a' W' ⟨fr',I2,⟨rfl,hl,hq⟩,hO2,hf2⟩
   exact al5 (Q:=fun v I=> ∃(r0:Sl),v=Sl.v r0/\Q r0 I) hf2 fD rD hO2 (ap3 (R:=fun v I=> ∃(r0:Sl),v=Sl.v r0/\Q r0 I) results259 hl ⟨so,rfl,hq⟩)
end Go.Proofs.YtomdigihapdhnaaGreatDoor.G
namespace Go.Proofs.YtomdigihapdhnaaGreatDoor.Zt
open Go SL G
variable{B:World}[Zd B]{ro:AH}
theorem aoy{Bs b:Nat}{m:List ((Str×Int)×Value)}{es:Array MapEntry}{clock:Nat}{ob:Obj}{Q:Sl->AH->Prop}(hB:ro Bs=some ob)(hBc:wM ⟨Bs,0,none⟩ (some ob)=some (.map (some b)))(hM:ro b=some (.map es clock))(hes:es.toList.map jH=m.map (pM kSI))(hbn:acw es clock)(hml:m.length<=1048576)
  (hQ:∀ (xs:List (Str×Int)) s tag' I',xs.Perm (m.map (·.1))->SL.Sep ro I'->qH tag' I' 22 314 2 s (xs.map kyV)->Q s I'):
  jb B ro (⟨none,0,0⟩:Sl) (.func (.func 217) #[] #[.pointer (some ⟨Bs,0,none⟩)]) (fun _=>none) Q:=by
 refine aox hB hBc hM hes hbn (fun x2 pre I=> ∃tag s,SL.Sep ro I/\(∀b o,I b=some o->Obj.isCells o=true)/\qH tag I 22 314 2 s (pre.map kyV)/\Row tag I 9 311 ⟨some ⟨x2,0,none⟩,1,1⟩ [Sl.v s]) (fun x2 hx=>?_) (fun x2 pre I' h=>?_) (fun x2 pre x y I1 h hle hy hlen=>?_) fun x2 xs I' hp h=>?_
 .have st:=qd.fresh (tag:=fun _=>0) (r:=9) (o:= .cells #[Sl.v (⟨none,0,0⟩:Sl)] 311) (R:=[]) (ro:=ro) (I:=fun _=>none) Sep.none hx rfl
  refine⟨SL.setTag (fun _=>0) x2 9,⟨none,0,0⟩,st.sep,fun b o h=>?_,qH.nil _ _ _,.inr ⟨x2,_,rfl,by simp[SL.setTag],qA _ _ _,rfl,rfl,z7,fun i hi=>?_⟩⟩
  .unfold upd at h
   split at h
   .cases h;rfl
   .cases h
  .simp
 .obtain⟨_,_,_,h,_⟩:=h
  exact h
 .obtain⟨tag,s,hs,hc,hr,hx⟩:=h
  have hs1:SL.Sep ro (upd I1 y (.cells #[.string (S x.1),.int .i64 x.2] 314)):=fun b o h=>by
   unfold upd at h
   split at h
   .rename_i e;rw[e];exact hy
   .exact hs b o h
  have hr1:=qH.up hr hle
  have hx1:=Row.up hx hle
  have hyc:∀ i v,(kyV x)[i]?=some v->qb ro (upd I1 y (.cells #[.string (S x.1),.int .i64 x.2] 314)) ((⟨y,0,none⟩:Addr).add i)=some v:=fun i v hv=>by
   unfold qb SL.rd
   rw[SL.afR]
   simp only[hy,qA]
   simp only[wM,Addr.add,mp]
   rw[mc (by split<;>simp)]
   match i,hv with
   | 0,hv=>exact hv
   | 1,hv=>exact hv
  generalize upd I1 y (.cells #[.string (S x.1),.int .i64 x.2] 314)=I2 at hs1 hr1 hx1 hyc
  unfold alM
  refine⟨s,Row.cell1 hx1 hs1,wN 0 fun i v hv=>by rw[mp];exact hyc i v hv,?_⟩
  refine qr (tag:=tag) 0 hs1 fun z tag3 I3 st3 r3=>?_
  refine acb (l2:=[kyV x]) (qH.keep hr1 (st3 [])) (st3 []).sep (Row.readW1 r3 (st3 []).sep rfl z8) (t:=311) y0 ko rfl (by simp[qk]) y6 z8 fun sn tag4 I4 st4 r4=>?_
  have st4':=st4 [22] (.inr z7)
  refine⟨sn,rfl,?_⟩
  refine((hx1.keep (st3 [])).keep st4').st (i:=0) st4'.sep rfl z7 rfl fun I5 st5 r5=>?_
  have k:=((st3 [22,9]).trans (st4'.mono z7)).trans (st5.mono z7)
  refine⟨fun b o hb=>(k.old b o hb).2,SL.prc I5,aj6 I5,tag4,sn,fun b o hb=>st5.sep b o (aj6 I5 b o hb),fun b o hb=>anu hb,?_,Row.prc r5⟩
  rw[mJ]
  exact qH.prc (qH.keep r4 st5)
 .obtain⟨tag,s,hs,hc,hr,hx⟩:=h
  exact⟨s,Row.cell1 hx hs,hQ xs s tag I' hp hs hr⟩
end Go.Proofs.YtomdigihapdhnaaGreatDoor.Zt
namespace Go.Proofs.YtomdigihapdhnaaGreatDoor.Zt
open Go SL G Pa
variable{B:World}[Zd B]{ro I I':AH}{tag tag':Nat->Nat}
theorem alw{gb M r:Nat}{m:List ((Str×Int)×Value)}{Q:Sl->AH->Prop}(q:Nat)(hs:SL.Sep ro I)(hg:Row tag I 0 308 ⟨some ⟨gb,0,none⟩,1,1⟩ [.map (some M)])(hm:wy kSI tag I r M m)(hl:m.length<=1048576)
  (hQ:∀ s tag' I',(∀R,qd R ro tag I tag' I')->qH tag' I' q 314 2 s ((zI (m.map (·.1))).map kyV)->Q s I'):
  xy B ro (.func (.func 217) #[] #[.pointer (some ⟨gb,0,none⟩)]) (.func (.func 166) #[] #[]) I Q:=by
 obtain⟨es,clock,hb,hes,hbn⟩:=hm.obj
 obtain⟨ob,hob,hobc⟩:=anv hg
 refine adE ?_
 refine qc.mono (acQ (B:=B) (ro:=join ro I) (I:=fun _=>none) (Q:=fun s τ=> ∃tag1,qH tag1 τ 22 314 2 s ((zI (m.map (·.1))).map kyV)) fun _=>?_) ?_
 .unfold xS
  refine adI fun _=>?_
  unfold jO
  refine aoy (ahc hs hob) hobc (ahc hs hb) hes hbn hl fun xs s tag1 I1 hp hs1 hr=>?_
  have hxl:xs.length=m.length:=by rw[hp.length_eq,ml]
  refine amL hr hs1 z6 fun I2 st2 r2=>⟨tag1,?_⟩
  rw[ak0 hp]at r2
  exact r2
 .rintro v τ ⟨s,rfl,tag1,hr⟩ hsep hd
  refine⟨s,rfl,hQ s (fun c=>if(I c).isSome then tag c else q) (join I τ) (fun R=>⟨fun b o hb _=>⟨by simp[hb],wX hb⟩,fun b o hb=>⟨by simp[hb],o,wX hb⟩,fun b o hb=>?_⟩) (apU hr hd)⟩
  rcases pJ hb with h | ⟨_,h⟩
  .exact hs b o h
  .exact(jD (hsep b o h)).1
end Go.Proofs.YtomdigihapdhnaaGreatDoor.Zt
namespace Go.Proofs.YtomdigihapdhnaaGreatDoor.Zt
open Go SL G Pa Wi
variable{B:World}[Zd B]{ro I I':AH}{tag tag':Nat->Nat}
variable{ksl s0:Sl}{Q:Sl->AH->Prop}
section
variable{T M:Nat}{bs:List Nat}{h:Hub}
theorem aoz(hi:us tag I T M bs h)(hl:h.length<=1048576)
  (hQ:∀ s tag' I',(∀R,qd R ro tag I tag' I')->qH tag' I' 22 81 2 s ((kH h).map kyV)->Q s I'):acy B ro (some ⟨T,0,none⟩) I Q:=by
 refine aiv fun hs=>?_
 unfold acJ
 refine⟨_,rfl,some M,hi.cell.cell1 hs,?_⟩
 refine afG fun _=>?_
 unfold uh
 refine qr (tag:=tag) 0 hs fun gb tag1 I1 st1 r1=>?_
 have hk:=acB h bs hi.map.len
 refine amu (tag:=tag1) 22 (st1 []).sep r1 (hi.map.map.keep (st1 [])) (by rw[aeW h bs hi.map.len];omega) fun s tag2 I2 st2 r2=>?_
 rw[hk]at r2
 exact hQ s tag2 I2 (fun R=>(st1 R).trans (st2 R)) r2
abbrev CHi:List Nat:=[0,1,21,30]
abbrev CHe:List Nat:=[0,1,21,22,30]
theorem asM{W m:Nat}{kk:Str×Int}{d:xG}{A:Str×Bool}{a0:Option Addr}{j:Int}{b:Nat}{Y10:Int->AH->Prop}(hs:SL.Sep ro I)(row:Row tag I (rD b) 310 ⟨some ⟨b,0,none⟩,4,4⟩ [Sl.v s0,vI d.acked,vI d.last,.map (some m)])(mk:wy kSI tag I (rM b) m (d.marks.map fun k=>(k,vI 1)))(hn:kk.1.length<=128)(he:d.events.length<=32/\∀ e∈d.events,e.2.2.length<=128)(hm:d.marks.length<=32/\∀ m∈d.marks,m.1.length<=128)(hA:A.1.length<=10000000000)(w:qP tag I 30 W (d.events.foldl aaX (pc A (kk,d))).1 (d.events.foldl aaX (pc A (kk,d))).2)
  (hQ:∀ tag' I',qi CHi ro tag I tag' I'->qP tag' I' 30 W (aam A (kk,d)).1 (aam A (kk,d)).2->Y10 (i64.wrap (j+1)) I'):
  xO B ro a0 (some ⟨W,0,none⟩) ksl j (some ⟨b,0,none⟩) Q Y10 I:=by
 unfold xO
 have l0:=ah0 (a:=A) (p:=(kk,d)) hn he d.events.length
 simp only[List.take_length]at l0
 refine⟨_,rfl,some m,(row.read hs).2.2 _ rfl 3 _ rfl,?_⟩
 refine afm mk hs apJ ?_
 refine⟨_,rfl,?_⟩
 rw[ml]
 refine adf (tag:=tag) (a:=d.events.foldl aaX (pc A (kk,d))) [(d.marks.length:Int)] w z8 hs (by simp only[mA,mZ];omega) fun tag1 I1 st1 w1=>?_
 have k1:qi [30,1] ro tag I tag1 I1:=st1.s z8
 have row1:=row.keepS k1 (by rw[show(59+64*(b+2))%64=59 by omega];decide)
 have mk1:=mk.keepS k1 (by rw[show(60+64*(b+2))%64=60 by omega];decide)
 refine⟨_,rfl,some m,(row1.read st1.sep).2.2 _ rfl 3 _ rfl,?_⟩
 refine aeg fun _=>?_
 unfold yr
 refine qr (tag:=tag1) 0 st1.sep fun gb tag2 I2 st2 r2=>?_
 refine alw (tag:=tag2) 21 (st2 []).sep r2 (mk1.keep (st2 [])) (by rw[ml];omega) fun msl tag3 I3 st3 r3=>?_
 have ek:(d.marks.map fun k=>(k,vI 1)).map (·.1)=d.marks:=by rw[Lj];simp[Function.comp_def]
 rw[ek]at r3
 have hml:msl.len=(zI d.marks).length:=by rw[r3.len,ml]
 have hmk:=ag5 d.marks
 have s3:qi CHi ro tag I tag3 I3:=(k1.mono z8).trans ((wt st2).trans (wt st3))
 have w3:=(w1.keep (st2 [])).keep (st3 [])
 suffices∀m' i tag4 I4,i+m'=(zI d.marks).length->qi CHi ro tag I tag4 I4->qH tag4 I4 21 314 2 msl ((zI d.marks).map kyV)->qP tag4 I4 30 W (((zI d.marks).take i).foldl abb (abD A (kk,d))).1 (((zI d.marks).take i).foldl abb (abD A (kk,d))).2->lfpD (vR B ro a0 (some ⟨W,0,none⟩) ksl j msl Q Y10) (i:Int) I4 from
  this _ 0 tag3 I3 (mp _) s3 r3 (by rw[Lz];exact w3)
 intro m'
 induction m' with
 | zero=>
  intro i tag4 I4 hi s4 r4 w4
  refine lfpD.intro ?_
  unfold vR
  rw[mc z6]
  unfold yB
  rw[mT z6]at w4
  exact hQ tag4 I4 s4 w4
 | succ m' ih=>
  intro i tag4 I4 hi s4 r4 w4
  have hil:i<(zI d.marks).length:=by omega
  have hs4:=s4.sep
  obtain⟨q,hq,hc⟩:=(r4.read hs4).at (j:=i) (x:=kyV (zI d.marks)[i]) (by rw[mq,mh hil];try rfl)
  have hmm:(zI d.marks)[i].1.length<=128:=hm.2 _ (ai2.1 (mO hil))
  have etk:((zI d.marks).take (i+1)).foldl abb (abD A (kk,d))=abb (((zI d.marks).take i).foldl abb (abD A (kk,d))) (zI d.marks)[i]:=by
   rw[np,mh hil,List.foldl_append];try rfl
  have lb:=ai3 (a:=A) (p:=(kk,d)) hn he hm i
  simp only at lb
  generalize (zI d.marks)[i]=x at hc hmm etk
  generalize hC:((zI d.marks).take i).foldl abb (abD A (kk,d))=C at w4 lb etk
  refine lfpD.intro ?_
  generalize hZ:lfpD (vR B ro a0 (some ⟨W,0,none⟩) ksl j msl Q Y10)=Z0 at ih⊢
  unfold vR
  rw[me z6]
  refine⟨q,hq,z6,z6,S x.1,x.2,by rw[mr];exact hc,?_⟩
  refine acj (tag:=tag4) 0 hs4 rfl (by simp[qk]) fun X tag5 I5 st5 x5=>?_
  have hs5:=(st5 []).sep
  refine⟨x.2,(x5.read hs5).2.2 _ rfl 1 _ rfl,?_⟩
  refine adf (tag:=tag5) (a:=C) [x.2] (w4.keep (st5 [])) z8 hs5 (by simp only[mA,mZ];omega) fun tag6 I6 st6 w6=>?_
  have l6:=kl C x.2
  have x6:=x5.keep st6 z8
  refine⟨S x.1,by simpa using(x6.read st6.sep).2.2 _ rfl 0 _ rfl,?_⟩
  refine ajL (tag:=tag6) (a:=wB C x.2) x.1 w6 z8 st6.sep z6 fun tag7 I7 st7 w7=>?_
  have k47:qi [0,30,1] ro tag4 I4 tag7 I7:=(wt st5).trans ((st6.s z8).trans (st7.s z8))
  rw[Pa.inc i z6]
  refine ih (i+1) tag7 I7 z6 (s4.trans (k47.mono z8)) (qH.keepS r4 k47) ?_
  rw[etk]
  exact w7
theorem ar3(hi:us tag I T M bs h)(w:ame h)
  (hQ:∀ s tag' I',qi CHe ro tag I tag' I'->Row tag' I' 6 5 s ((abE h).map vU)->Q s I'):abq B ro (some ⟨T,0,none⟩) I Q:=by
 refine ahw fun hs=>?_
 unfold abG
 refine adc (tag:=tag) (r:=30) fun W tag1 I1 st1 w1=>?_
 have h1:=hi.keepS (wt (C:=[]) st1) z7
 refine⟨_,rfl,some M,h1.cell.cell1 (st1 []).sep,?_⟩
 refine afm h1.map.map (st1 []).sep amq ?_
 refine⟨_,rfl,?_⟩
 rw[aeW h bs hi.map.len]
 refine adf (tag:=tag1) (a:=([],false)) [(h.length:Int)] w1 z8 (st1 []).sep z7 fun tag2 I2 st2 w2=>?_
 have h2:=h1.keepS (st2.s (C:=[30,1]) z8)
 have hhl:=w.len
 refine aoz (tag:=tag2) h2 hhl fun ksl tag3 I3 st3 r3=>?_
 have hln:ksl.len=(kH h).length:=by rw[r3.len,ml]
 have hkl:=ak2 h
 have s3:qi CHe ro tag I tag3 I3:=(wt st1).trans ((st2.s z8).trans (wt st3))
 suffices∀m j tag4 I4,j+m=(kH h).length->qi CHe ro tag I tag4 I4->qH tag4 I4 22 81 2 ksl ((kH h).map kyV)->us tag4 I4 T M bs h->qP tag4 I4 30 W (((kH h).take j).foldl (fun a k=>aam a (k,ji h k)) (adT h)).1 (((kH h).take j).foldl (fun a k=>aam a (k,ji h k)) (adT h)).2->lfpD (vV B ro (some ⟨T,0,none⟩) (some ⟨W,0,none⟩) ksl Q) (j:Int) I4 from
  this _ 0 tag3 I3 (mp _) s3 r3 (h2.keepS (wt (C:=[]) st3) z7) (by rw[Lz];exact w2.keep (st3 []))
 intro m
 induction m with
 | zero=>
  intro j tag4 I4 hj s4 r4 h4 w4
  refine lfpD.intro ?_
  unfold vV
  rw[mc z6]
  unfold pu
  have hb:=ah1 w j
  rw[mT z6]at w4 hb
  have hb2:9517*(kH h).length<=9517*1048576:=nM _ z6
  refine ajH (a:=akw h) w4 s4.sep (by unfold akw;omega) (fun hbad=>?_) fun hgood s tag5 I5 st5 r5=>?_
  .refine hQ _ tag4 I4 s4 ?_
   unfold abE adg
   rw[me hbad]
   exact Row.nil _ _
  .refine hQ s tag5 I5 (s4.trans (wt st5)) ?_
   unfold abE adg
   rw[mc (by rw[hgood];simp)]
   exact r5
 | succ m ih=>
  intro j tag4 I4 hj s4 r4 h4 w4
  have hjl:j<(kH h).length:=by omega
  have hs4:=s4.sep
  obtain⟨q,hq,hc⟩:=(r4.read hs4).at (j:=j) (x:=kyV (kH h)[j]) (by rw[mq,mh hjl];try rfl)
  obtain⟨d,hmem⟩:=ak3 (mO hjl)
  have etk:((kH h).take (j+1)).foldl (fun a k=>aam a (k,ji h k)) (adT h)=aam (((kH h).take j).foldl (fun a k=>aam a (k,ji h k)) (adT h)) ((kH h)[j],ji h (kH h)[j]):=by
   rw[np,mh hjl,List.foldl_append];try rfl
  have hb:=ah1 w j
  rw[nU,Ll z6]at hb
  generalize (kH h)[j]=k at hc hmem etk
  have hb2:9517*(j+1)<=9517*1048576:=nM _ z6
  generalize hA:((kH h).take j).foldl (fun a k=>aam a (k,ji h k)) (adT h)=A at w4 hb etk
  have hdo:ji h k=d:=by unfold ji;rw[yn w.keys hmem];try rfl
  rw[hdo]at etk
  have hnm:k.1.length<=128:=w.names _ hmem
  have hev:=w.evs _ hmem
  have hmk:=w.mks _ hmem
  simp only at hev hmk
  refine lfpD.intro ?_
  generalize hY:lfpD (vV B ro (some ⟨T,0,none⟩) (some ⟨W,0,none⟩) ksl Q)=Y0 at ih⊢
  unfold vV
  rw[me z6]
  refine⟨q,hq,z6,z6,S k.1,k.2,by rw[mr];exact hc,?_⟩
  refine acj (tag:=tag4) 0 hs4 rfl (by simp[qk]) fun X tag5 I5 st5 x5=>?_
  have hs5:=(st5 []).sep
  have h5:=h4.keepS (wt (C:=[]) st5) z7
  refine⟨_,rfl,some M,h5.cell.cell1 hs5,S k.1,k.2,kT (x5.read hs5) rfl,?_⟩
  refine aaJ (k:=k) h5.map.map hs5 amq (aol aro) asE ?_
  rcases h5.map.look k with⟨g1,_⟩ | ⟨i0,b,d',hb1,hp1,g3,g4,hD⟩
  .rw[yn w.keys hmem]at g1;cases g1
  rw[g4]
  rw[yn w.keys hmem]at g3
  obtain rfl:=mQ g3
  refine⟨some ⟨b,0,none⟩,rfl,S k.1,by simpa using(x5.read hs5).2.2 _ rfl 0 _ rfl,?_⟩
  refine ajL (tag:=tag5) (a:=A) k.1 (w4.keep (st5 [])) z8 hs5 z6 fun tag6 I6 st6 w6=>?_
  have l6:=vl A k.1
  have k6:qi [30,1] ro tag5 I5 tag6 I6:=st6.s z8
  have x6:=x5.keep st6 z8
  obtain⟨m6,s6,row6,ev6,mk6⟩:=hD.keepS k6
  have g6:=(row6.read st6.sep).2.2 _ rfl
  refine⟨_,rfl,_,rfl,k.2,(x6.read st6.sep).2.2 _ rfl 1 _ rfl,d.acked,g6 1 _ rfl,d.last,g6 2 _ rfl,?_⟩
  refine adf (tag:=tag6) (a:=wv A k.1) [k.2,d.acked,d.last] w6 z8 st6.sep (by simp only[mA,mZ];omega) fun tag7 I7 st7 w7=>?_
  have k7:qi [30,1] ro tag5 I5 tag7 I7:=k6.trans (st7.s z8)
  have k47:qi CHi ro tag4 I4 tag7 I7:=(wt st5).trans (k7.mono z8)
  obtain⟨m7,s7,row7,ev7,mk7⟩:=hD.keepS k7
  refine⟨_,rfl,s7,by simpa using(row7.read st7.sep).2.2 _ rfl 0 _ rfl,?_⟩
  have hsl:s7.len=d.events.length:=by rw[ev7.len,ml]
  have h7:=h4.keepS k47
  suffices∀m' i tag8 I8,i+m'=d.events.length->qi CHi ro tag4 I4 tag8 I8->qi [0,30,1] ro tag7 I7 tag8 I8->qP tag8 I8 30 W ((d.events.take i).foldl aaX (pc A (k,d))).1 ((d.events.take i).foldl aaX (pc A (k,d))).2->lfpD (vT B ro (some ⟨T,0,none⟩) (some ⟨W,0,none⟩) ksl (j:Int) (some ⟨b,0,none⟩) s7 Q Y0) (i:Int) I8 from
   this _ 0 tag7 I7 (mp _) k47 (qi.refl st7.sep) (by rw[Lz];exact w7)
  intro m'
  induction m' with
  | zero=>
   intro i tag8 I8 hi' s8 q8 w8
   refine lfpD.intro ?_
   unfold vT
   rw[mc z6]
   rw[mT z6]at w8
   have row8:=row7.keepS q8 (by rw[show(59+64*(b+2))%64=59 by omega];decide)
   have mk8:=mk7.keepS q8 (by rw[show(60+64*(b+2))%64=60 by omega];decide)
   refine asM s8.sep row8 mk8 hnm hev hmk z6 w8 fun tag9 I9 s9 w9=>?_
   have s49:=s8.trans s9
   rw[Pa.inc j z6]
   exact ih (j+1) tag9 I9 z6 (s4.trans (s49.mono z8)) (qH.keepS r4 s49) (h4.keepS s49) (by rw[etk];exact w9)
  | succ m' ih'=>
   intro i tag8 I8 hi' s8 q8 w8
   have hil:i<d.events.length:=by omega
   have hs8:=s8.sep
   have ev8:=qH.keepS ev7 q8 (by rw[show(61+64*(b+2))%64=61 by omega];decide)
   obtain⟨q',hq',hc'⟩:=(ev8.read hs8).at (j:=i) (x:=evV d.events[i]) (by rw[mq,mh hil];try rfl)
   have hel:=hev.2 _ (mO hil)
   have ete:(d.events.take (i+1)).foldl aaX (pc A (k,d))=aaX ((d.events.take i).foldl aaX (pc A (k,d))) d.events[i]:=by
    rw[np,mh hil,List.foldl_append];try rfl
   have lb:=ah0 (a:=A) (p:=(k,d)) hnm hev i
   simp only at lb
   generalize d.events[i]=e at hc' hel ete
   generalize hC:(d.events.take i).foldl aaX (pc A (k,d))=C at w8 lb ete
   refine lfpD.intro ?_
   generalize hZ:lfpD (vT B ro (some ⟨T,0,none⟩) (some ⟨W,0,none⟩) ksl (j:Int) (some ⟨b,0,none⟩) s7 Q Y0)=Z0 at ih'⊢
   unfold vT
   rw[me z6]
   refine⟨q',hq',z6,z6,e.1,e.2.1,S e.2.2,by rw[mr];exact hc',?_⟩
   refine acj (tag:=tag8) 0 hs8 rfl (by simp[qk]) fun X9 tag9 I9 st9 x9=>?_
   have hs9:=(st9 []).sep
   refine⟨e.2.1,(x9.read hs9).2.2 _ rfl 1 _ rfl,?_⟩
   refine adf (tag:=tag9) (a:=C) [e.2.1] (w8.keep (st9 [])) z8 hs9 (by simp only[mA,mZ];omega) fun taga Ia sta wa=>?_
   have la:=kl C e.2.1
   have xa:=x9.keep sta z8
   refine⟨S e.2.2,(xa.read sta.sep).2.2 _ rfl 2 _ rfl,?_⟩
   refine ajL (tag:=taga) (a:=wB C e.2.1) e.2.2 wa z8 sta.sep z6 fun tagb Ib stb wb=>?_
   have kb:qi [0,30,1] ro tag8 I8 tagb Ib:=(wt st9).trans ((sta.s z8).trans (stb.s z8))
   rw[Pa.inc i z6]
   refine ih' (i+1) tagb Ib z6 (s8.trans (kb.mono z8)) (q8.trans kb) ?_
   rw[ete]
   exact wb
end
end Go.Proofs.YtomdigihapdhnaaGreatDoor.Zt
namespace Go.Proofs.YtomdigihapdhnaaGreatDoor.Zt
open Go SL G Pa Wi
variable{B:World}[Zd B]{ro I I':AH}{tag tag':Nat->Nat}
theorem qP.keepS{C:List Nat}{r W:Nat}{acc:Str}{bad:Bool}(h:qP tag I r W acc bad)(k:qi C ro tag I tag' I')(hC:r%64∉C:=by decide):qP tag' I' r W acc bad:=by
 obtain⟨R,hR,k⟩:=k
 exact h.keep k (fun hx=>hC (hR _ hx)) fun hx=>hC (by have:=hR _ hx;rwa [show(r+64)%64=r%64 by omega]at this)
theorem qP.outR{L:List Nat}{r W:Nat}{acc:Str}{bad:Bool}(h:qP tag I r W acc bad)(h1:r∉L)(h2:r+64∉L):qP tag (SL.vG tag L I) r W acc bad:=by
 obtain⟨s,hc,lr,a,c⟩:=h
 exact⟨s,hc,lr,a.outR h1,c.outR h2⟩
theorem qP.backR{L:List Nat}{tag1:Nat->Nat}{τ:AH}{r W:Nat}{acc:Str}{bad:Bool}(h:qP tag1 τ r W acc bad)(hd:qI (SL.inR tag L I) τ):qP (aet tag tag1 L I) (join (SL.inR tag L I) τ) r W acc bad:=by
 obtain⟨s,hc,lr,a,c⟩:=h
 exact⟨s,hc,lr,a.backR hd,c.backR hd⟩
abbrev CSe:List Nat:=[0,1,20,21,22,29,30]
theorem aqY{W:Nat}{s:Sto}{Q:Sl->AH->Prop}(h:afU tag I W s)(hsm:∀ p∈s.tree,p.1.length<=128/\p.2.data.length<=256)(hlen:s.tree.length<=4294967296)(w:aod s)
  (hQ:∀ sl tag' I',qi CSe ro tag I tag' I'->Row tag' I' 6 5 sl ((ahY s).map vU)->Q sl I'):uZ B ro (some ⟨W,0,none⟩) I Q:=by
 obtain⟨T,Tt,Th,ms,h⟩:=h.in
 refine agp fun hs=>?_
 unfold aao
 refine adc (tag:=tag) (r:=29) fun X tag1 I1 st1 w1=>?_
 have hs1:=(st1 []).sep
 have h1:=h.fresh st1
 have hml:ms.len=s.members.length:=by rw[h.mem.len,ml]
 have hmm:=w.mem
 refine⟨_,rfl,_,rfl,s.epoch,(h1.own.read hs1).2.2 _ rfl 0 _ rfl,ms,(h1.own.read hs1).2.2 _ rfl 1 _ rfl,?_⟩
 rw[hml]
 refine adf (tag:=tag1) (a:=([],false)) [s.epoch,(s.members.length:Int)] w1 z8 hs1 (by simp only[mA,mZ];omega) fun tag2 I2 st2 w2=>?_
 have k2:qi [29,1] ro tag1 I1 tag2 I2:=st2.s z8
 have h2:=h1.keepS k2
 refine⟨_,rfl,ms,(h2.own.read st2.sep).2.2 _ rfl 1 _ rfl,?_⟩
 have l2:=abC [s.epoch,(s.members.length:Int)] ([],false)
 simp only[mA,mZ]at l2
 refine aku (tag:=tag2) (r:=29) (q:=118) z8 z8 w2 st2.sep z6 h2.mem fun tag3 I3 st3 w3=>?_
 have k3:qi [29,1] ro tag2 I2 tag3 I3:=st3.s z8
 have h3:=h2.keepS k3
 have hs3:=st3.sep
 have k13:qi [29,1] ro tag I tag3 I3:=(wt st1).trans (k2.trans k3)
 change qP tag3 I3 29 X (aeP s).1 (aeP s).2 at w3
 have l0:=ak4 w
 refine agN tag3 [54] ?_
 have hsA:SL.Sep (join ro (SL.inR tag3 [54] I3)) (SL.vG tag3 [54] I3):=hs3.lentR
 obtain⟨MT,bT,tA⟩:=h3.tree.outR (L:=[54]) z8
 obtain⟨MB,bB,tb⟩:=h3.tbl
 obtain⟨MH,bH,hb3⟩:=h3.hub
 have wA:=qP.outR (L:=[54]) w3 z8 z8
 refine⟨_,rfl,_,rfl,some ⟨Tt,0,none⟩,h3.own.lendR hs3 z7 rfl (i:=3) rfl,_,rfl,some ⟨Th,0,none⟩,h3.own.lendR hs3 z7 rfl (i:=4) rfl,some ⟨T,0,none⟩,h3.own.lendR hs3 z7 rfl (i:=2) rfl,?_⟩
 refine ao3 (tag:=tag3) z8 z8 z8 z8 z8 tA hsm hlen fun s1 tag4 I4 st4 r4=>?_
 have k4:qi CSe (join ro (SL.inR tag3 [54] I3)) tag3 (SL.vG tag3 [54] I3) tag4 I4:=st4.s z8
 have k4':qi [30,1] (join ro (SL.inR tag3 [54] I3)) tag3 (SL.vG tag3 [54] I3) tag4 I4:=st4.s z8
 refine arV ((tb.outR (L:=[54]) z8).keepS k4') w.tbl fun s2 tag5 I5 st5 r5=>?_
 have k5:=(k4'.mono (D:=CTe) z8).trans st5
 refine ar3 ((hb3.outR (L:=[54]) z8).keepS k5) w.hub fun s3 tag6 I6 st6 r6=>?_
 have k6:qi [0,1,20,21,22,30] (join ro (SL.inR tag3 [54] I3)) tag3 (SL.vG tag3 [54] I3) tag6 I6:=(k5.mono z8).trans (st6.mono z8)
 refine qr (tag:=tag6) 0 k6.sep fun y tag7 I7 st7 r7=>?_
 have q4:=((r4.keepS st5).keepS st6).keep (st7 [])
 have q5:=(r5.keepS st6).keep (st7 [])
 have q6:=r6.keep (st7 [])
 have w7:=(qP.keepS wA k6).keep (st7 [])
 have z1:=w.tree
 have z2:=ajP w.tbl
 have z3:=ajQ w.hub
 refine apT (r:=29) (q:=0) (p1:=af9 s.tree) (p2:=aaF s.tbl) (p3:=abE s.hub) w7 z8 z8 (st7 []).sep z6 r7
  (by rw[q4.len,ml]) (by rw[q5.len,ml]) (by rw[q6.len,ml])
  (fun t' τ k=>(q4.keep k z8).read k.sep) (fun t' τ k=>(q5.keep k z8).read k.sep) (fun t' τ k=>(q6.keep k z8).read k.sep) fun tag8 I8 st8 w8=>?_
 change qP tag8 I8 29 X (ai1 s).1 (ai1 s).2 at w8
 intro hd
 have k8:qi CSe (join ro (SL.inR tag3 [54] I3)) tag3 (SL.vG tag3 [54] I3) tag8 I8:=(k6.mono z8).trans ((wt st7).trans (st8.s z8))
 have kA:=k8.backR hs3 hd
 have w9:=qP.backR w8 hd
 have kB:qi CSe ro tag I _ _:=(k13.mono z8).trans kA
 refine ajH (a:=ai1 s) w9 kA.sep (by have:=aqy w;omega) (fun hbad=>?_) fun hgood sl tag9 I9 st9 r9=>?_
 .refine hQ _ _ _ kB ?_
  unfold ahY adg
  rw[me hbad]
  exact Row.nil _ _
 .refine hQ sl tag9 I9 (kB.trans (wt st9)) ?_
  unfold ahY adg
  rw[mc (by rw[hgood];simp)]
  exact r9