import Derived.Test.YtomdigihapdhnaaGreatDoorXG
set_option linter.all false
set_option maxRecDepth 99999
set_option maxHeartbeats 0
open Go.IntKind(i64)
open Go.Proofs.Tryz
namespace Go.Proofs.YtomdigihapdhnaaGreatDoor
namespace SL
open Go
variable{ro I I':AH}{tag tag':Nat->Nat}
theorem aia(b:Nat)(a:Addr):qa (join ro (one I b)) (SL.del I b) a=qa ro I a:=by unfold qa;rw[ahc]
theorem aiJ{a:Addr}{v:Value}{τ:AH}(h:qa ro I a=some v):qa (join ro (one I a.block)) τ a=some v:=by
 unfold qa rd at h⊢
 unfold join one
 cases e:ro a.block with
 | some o=>rw[e]at h;exact h
 | none=>
  rw[e]at h
  simp only[if_true]
  cases e':I a.block with
  | some o=>rw[e']at h;exact h
  | none=>rw[e']at h;simp[wM]at h
end SL
namespace Zt
open Go SL G Pa
variable{B:World}{ro I I':AH}{tag tag':Nat->Nat}
end Zt
namespace Zt
open Go SL Pa Wi
structure wh where
 kind:Int
 home:Str
 session:Int
 req:Int
 nonce:Int
 lease:Int
 beats:Int
 ack:Int
 ops:List MOp
 path:Str
 watch:Bool
 epoch:Int
 members:List Int
theorem abh{n:Int}:qK n=true↔0<=n/\n<=4611686018427387903:=by unfold qK;simp
theorem xK{n:Int}(h:qK n=true):((n.toNat:Nat):Int)=n/\n.toNat<4611686018427387904:=by
 have:=abh.1 h;omega
end Zt
namespace SL
open Go
variable{P:Program}{B:World}{ro I I':AH}{tag tag':Nat->Nat}
theorem af1{β:Type}{em:Bool}{kt:TypeId}{s:Int}{f:Unit->Sem β}{K:β->AH->Prop}(hk:P.underlying kt=some (.int .i64))(h:awp P ro (f ()) K I):awp P ro (Sem.bind (Instr.checkKey em 10000 kt (.int .i64 s)) f) K I:=by
 rw[show(10000:Nat)=9999+1 from rfl]
 unfold Instr.checkKey
 simp only[qw]
 rw[bind_assoc',qu hk]
 exact h
theorem agF{β:Type}{kt:TypeId}{s:Int}{l:List MapEntry}{r:Option (Nat×Value)}{f:Option (Nat×Value)->Sem β}{K:β->AH->Prop}(hk:P.underlying kt=some (.int .i64))(hr:Instr.findNow (.int .i64) (.int .i64 s) l 0=some r)(h:awp P ro (f r) K I):
  awp P ro (Sem.bind (Instr.findKey kt (.int .i64 s) l) f) K I:=by
 unfold Instr.findKey
 simp only[qw]
 rw[bind_assoc',qu hk]
 rw[hr]
 exact h
end SL
namespace SL
open Go
variable{P:Program}
abbrev kS(k:Str):Value:= .string (S k)
abbrev kI(k:Int):Value:= .int .i64 k
abbrev kSI(k:Str×Int):Value:= .agg #[.string (S k.1),.int .i64 k.2]
theorem aeg{κ:Type}[DecidableEq κ]{enc:κ->Value}{d:TypeDesc}(hsame:∀ k k',Instr.sameNow d (enc k) (enc k')=some (decide (k=k')))(k:κ):∀ (l:List MapEntry) (m:List (κ×Value)) (i:Nat),l.map aaX=m.map (acT enc)->Instr.findNow d (enc k) l i=some (abg k m i):=by
 intro l
 induction l with
 | nil=>intro m i h;cases m with
  | nil=>rfl
  | cons p m=>cases h
 | cons e l ih=>
  intro m i h
  cases m with
  | nil=>cases h
  | cons p m=>
   simp only[List.map_cons,List.cons.injEq]at h
   have hk:e.key=enc p.1:=congrArg Prod.fst h.1
   have hv:e.val=p.2:=congrArg Prod.snd h.1
   unfold Instr.findNow abg
   rw[hk,hsame,hv]
   by_cases c:k=p.1
   .rw[if_pos c,decide_eq_true c]
   .rw[if_neg c,decide_eq_false c]
    exact ih m (i+1) h.2
theorem akO{kt:TypeId}(hk:P.underlying kt=some .string):agv P kt kS where
 check:=fun h=>abp hk h
 find:=fun{_ _ _ k l m f K} he h=>by
  refine ue hk (aeg (enc:=kS) (fun k k'=>?_) k l m 0 he) h
  show some (S k == S k')=_
  rw[ago];congr 1;rw[decide_eq_decide];exact ahX
 stays:=fun k=>by
  unfold Instr.keyThatStays
  rw[if_pos (by simp[Instr.sameBits,ago])];rfl
theorem alX{kt:TypeId}(hk:P.underlying kt=some (.int .i64)):agv P kt kI where
 check:=fun h=>af1 hk h
 find:=fun{_ _ _ k l m f K} he h=>by
  refine agF hk (aeg (enc:=kI) (fun k k'=>?_) k l m 0 he) h
  show(if IntKind.i64=IntKind.i64 then some (k == k')else none)=_
  rw[if_pos rfl];congr 1
 stays:=fun k=>by
  unfold Instr.keyThatStays
  rw[if_pos (by simp[Instr.sameBits])];rfl
section
variable{ro:AH}
end
end SL
namespace SL
open Go
variable{P:Program}{B:World}{ro I I':AH}{tag tag':Nat->Nat}
theorem aer(a:Addr)(p i:Nat):(a.add p).add i=a.add (p+i):=by
 cases p with
 | zero=>show a.add i=_;rw[Nat.zero_add]
 | succ p=>
  cases i with
  | zero=>rfl
  | succ i=>
   obtain⟨b,o,s⟩:=a
   cases s with
   | none=>simp[Addr.add];omega
   | some s=>simp[Addr.add];omega
theorem qy.ptr{s:Sl}{l:List Value}(h:qy ro I s l)(hl:0<l.length):∃ p,s.a=some p/\∀ i v,l[i]?=some v->qa ro I (p.add i)=some v:=by
 cases e:s.a with
 | none=>have:=h.2.1 e;subst this;simp at hl
 | some p=>exact⟨p,rfl,h.2.2 p e⟩
theorem pQ.at{w:Nat}{s:Sl}{l:List (List Value)}(h:pQ ro I w s l){j:Nat}{x:List Value}(hj:l[j]?=some x):∃ q,s.a=some q/\qj ro I (q.add (j*w)) 0 x:=by
 have hjl:j<l.length:=(List.getElem?_eq_some_iff.1 hj).1
 cases e:s.a with
 | none=>have:=h.2.1 e;subst this;simp at hjl
 | some q=>
  refine⟨q,rfl,wr 0 fun i v hv=>?_⟩
  have hw:=h.2.2.1 x (List.mem_of_getElem? hj)
  have hi:i<w:=by
   have:=(List.getElem?_eq_some_iff.1 hv).1
   omega
  have:=h.2.2.2 q e (j*w+i) v (by rw[aen h.2.2.1 hj hi];exact hv)
  rw[Nat.zero_add,aer];exact this
end SL
namespace Wi
open Go SL G Zt
variable{B:World}{ro I I':AH}{tag tag':Nat->Nat}
theorem xh{a:Str}{n:Int}(h:qK n=true):wo (a,false) n=(a++qC n.toNat,false):=by unfold wo;rw[if_pos h]
theorem pR{a:Str×Bool}{n:Int}(h:qK n=false):(wo a n).2=true:=by unfold wo;rw[h];rfl
theorem xH{a:Str×Bool}{n:Int}(h:a.2=true):(wo a n).2=true:=by unfold wo;split<;>simp[h]
theorem adI{a p:Str}(h:p.length<4611686018427387904):vZ (a,false) p=(a++wT p,false):=by
 unfold vZ
 rw[xh (by unfold qK;simp;omega),Int.toNat_natCast]
 unfold wT
 simp
theorem agG{a:Str×Bool}{p:Str}(h:a.2=true):(vZ a p).2=true:=by unfold vZ;exact xH h
theorem abW:∀ (ns:List Int) {a:Str×Bool},a.2=true->(ns.foldl wo a).2=true
 | [],_,h=>h
 | n::ns,a,h=>abW ns (a:=wo a n) (xH h)
theorem abX(ns:List Int):∀ a:Str×Bool,(ns.foldl wo a).1.length<=a.1.length+9*ns.length:=by
 induction ns with
 | nil=>intro a;simp
 | cons n ns ih=>
  intro a
  have:=ih (wo a n)
  have:=kR a n
  rw[List.foldl_cons,List.length_cons];omega
theorem agH{r W:Nat}{a:Str×Bool}(ns:List Int){K:AH->Prop}(h:wm tag I r W a.1 a.2)(hr:r≠1/\r≠0)(hs:SL.Sep ro I)(hl:a.1.length+9*ns.length<=140737488355328)
  (hK:∀ tag' I',qf [r,r+64,1] ro tag I tag' I'->wm tag' I' r W (ns.foldl wo a).1 (ns.foldl wo a).2->K I'):
  nw ro I (.cells (ns.map Zt.vI).toArray 3) fun y I=>wb B ro (some ⟨W,0,none⟩) (⟨some ⟨y,0,none⟩,ns.length,ns.length⟩:Sl) I K:=by
 refine ql (tag:=tag) 0 hs fun y tag1 I1 st1 r1=>?_
 rw[List.size_toArray,List.length_map]at r1
 exact adX (r:=r) (q:=0) (ns:=ns) (a:=a) hr.1 ⟨Ne.symm hr.2,by omega,by omega⟩ (h.keep (st1 [])) (st1 []).sep hl r1 fun tag2 I2 st2 h2=>hK tag2 I2 ((st1 _).trans st2) h2
theorem aiK{r W:Nat}{a:Str×Bool}(p:Str){K:AH->Prop}(h:wm tag I r W a.1 a.2)(hr:r≠1/\r≠0)(hs:SL.Sep ro I)(hl:a.1.length+9+p.length<=140737488355328)
  (hK:∀ tag' I',qf [r,r+64,1] ro tag I tag' I'->wm tag' I' r W (vZ a p).1 (vZ a p).2->K I'):
  nw ro I (.cells #[.string (S p)] 9) fun y I=>zY B ro (some ⟨W,0,none⟩) (⟨some ⟨y,0,none⟩,1,1⟩:Sl) I K:=by
 refine ql (tag:=tag) 0 hs fun y tag1 I1 st1 r1=>?_
 exact afD (r:=r) (q:=0) (p:=p) (a:=a) (h.keep (st1 [])) hr.1 ⟨Ne.symm hr.2,by omega,by omega⟩ (st1 []).sep hl r1 fun tag2 I2 st2 h2=>hK tag2 I2 ((st1 _).trans st2) h2
theorem akP{r W:Nat}{a:Str×Bool}{s:Sl}(p:Str){K:AH->Prop}(h:wm tag I r W a.1 a.2)(hr:r≠1/\r≠0)(hs:SL.Sep ro I)(hl:a.1.length+9+p.length<=140737488355328)
  (hsrc:∀ tag' I',qf [r,r+64,1] ro tag I tag' I'->SL.qy ro I' s (p.map vU)) (hK:∀ tag' I',qf [r,r+64,1] ro tag I tag' I'->wm tag' I' r W (vZ a p).1 (vZ a p).2->K I'):
  nw ro I (.cells #[Sl.v s] 24) fun y I=>vM B ro (some ⟨W,0,none⟩) (⟨some ⟨y,0,none⟩,1,1⟩:Sl) I K:=by
 have hln:s.len=p.length:=by have:=(hsrc tag I (qf.refl hs)).1;rw[this,List.length_map]
 refine ql (tag:=tag) 0 hs fun y tag1 I1 st1 r1=>?_
 exact afE (r:=r) (q:=0) (p:=p) (a:=a) (h.keep (st1 [])) hr.1 ⟨Ne.symm hr.2,by omega,by omega⟩ (st1 []).sep hl r1 hln (fun tag2 I2 st2=>hsrc tag2 I2 ((st1 _).trans st2)) fun tag2 I2 st2 h2=>hK tag2 I2 ((st1 _).trans st2) h2
end Wi
namespace Zt
open Go SL Pa Wi
theorem agI{α:Type}{f:Str×Bool->α->Str×Bool}(h:∀ a y,a.2=true->(f a y).2=true):∀ (l:List α) {a:Str×Bool},a.2=true->(l.foldl f a).2=true
 | [],_,k=>k
 | y::l,a,k=>agI h l (h a y k)
theorem aho{α:Type}{f:Str×Bool->α->Str×Bool}(hb:∀ a y,a.2=true->(f a y).2=true){p:α->Prop}(hn:∀ a y,¬p y->(f a y).2=true):∀ (l:List α) {a:Str×Bool},(¬ ∀y∈l,p y)->(l.foldl f a).2=true
 | [],_,h=>absurd (fun y hy=>by cases hy) h
 | y::l,a,h=>by
  rw[List.foldl_cons]
  by_cases c:p y
  .refine aho hb hn l fun hall=>h fun z hz=>?_
   rcases List.mem_cons.1 hz with rfl | hz
   .exact c
   .exact hall z hz
  .exact agI hb l (hn a y c)
theorem aac{n:Int}(h:¬ qK n=true):qK n=false:=by simpa using h
theorem akQ{α:Type}{l:List α}{n:Nat}(h:l.length<=n)(hn:n<4611686018427387904):qK (l.length:Int)=true:=by rw[abh];omega
end Zt
namespace SL
open Go
section
variable{P:Program}{B:World}{ro:AH}{N:Nat}{ops:Array Oper}
theorem agJ{cl:Nat->Nat}{K K':Fr->AH->Prop}(h:∀ fr I,vN B ro I->K fr I->K' fr I):∀ (l:List Nat) {fr:Fr} {I:AH},vN B ro I->qT P B ro N ops cl K l fr I->qT P B ro N ops cl K' l fr I
 | [],_,_,hl,hd=>h _ _ hl hd
 | x::l,_,_,hl,hd=>D1.mono hl (fun _ _ hl' hx=>agJ h l hl' hx) hd
theorem afH{cl:Nat->Nat}{K:Fr->AH->Prop}{i:Nat}:∀ (l:List Nat),qT P B ro N ops cl K (l++[i])=qT P B ro N ops cl (D1 P B ro N ops cl i K) l
 | []=>rfl
 | x::l=>by
  funext fr I
  show D1 P B ro N ops cl x (qT P B ro N ops cl K (l++[i])) fr I=_
  rw[afH l];rfl
theorem zr.more{U:AH}{o:Oper}{fr:Fr}{u:Value}(h:zr P ro aaD ops o fr u):zr P (join ro U) aaD ops o fr u:=by
 have key:∀ {α:Type} (s:Sem α) (a:α),qe P ro s aaD=some a->qe P (join ro U) s aaD=some a:=by
  intro α s
  induction s with
  | pure x=>intro a h;exact h
  | load m x k ih=>
   intro a h
   simp only[qe]at h⊢
   cases hc:qa ro aaD x with
   | none=>rw[hc]at h;cases h
   | some v=>
    rw[hc]at h
    have:qa (join ro U) aaD x=some v:=by
     unfold qa rd at hc⊢
     cases e:ro x.block with
     | none=>rw[e]at hc;simp[wM]at hc
     | some o=>rw[e]at hc;rw[zD e];exact hc
    rw[this];exact ih v a h
  | program k ih=>intro a h;exact ih _ a h
  | mark m k ih=>intro a h;exact ih a h
  | _=>intro a h;cases h
 unfold zr at h⊢
 split at h
 .exact fun O hρ=>key _ _ (h O hρ)
 .obtain⟨t,v,h1,h2,h3⟩:=h
  exact⟨t,v,h1,h2,h3.imp (fun⟨a,b⟩=>⟨a,fun O hρ=>key _ _ (b O hρ)⟩) id⟩
def ac5(P:Program)(B:World)(ro U:AH)(N:Nat)(ops:Array Oper)(cl:Nat->Nat)(Q:Fr->AH->Prop)(l2:List Nat):Fr->AH->Prop:=fun fr I=> ∃fr',wg fr' fr/\(qz U I->qT P B ro N ops cl Q l2 fr' (join U I))
theorem aiL{φ U I:AH}{w:World}(hp:∀ b o,U b=some o->φ b=none/\ro b=none)(h:Own B (join ro U) φ I w):qz U I/\vN B ro (join U I):=by
 obtain⟨g1,g2⟩:=h.unlend hp
 exact⟨g2,φ,w,g1⟩
theorem aiM{U I:AH}(hr:qz U ro)(h:vN B (join ro U) I):qz U I/\vN B ro (join U I):=by
 obtain⟨φ,w,h⟩:=h
 have h':Own B (join ro U) (fun _=>none) I w:=⟨h.os,h.tape,h.output,fun b o hs=>⟨(h.own b o hs).1,rfl,(h.own b o hs).2.2⟩,(fun _ _ e=>by cases e),h.ro⟩
 exact aiL (fun b o hb=>⟨rfl,hr b o hb⟩) h'
theorem alv{cl:Nat->Nat}{Q:Fr->AH->Prop}(hK:pj Q){U:AH}(hr:qz U ro){i:Nat}(h0:cl i=0){l1 pre post:List Nat}(hs1:∀ x∈l1,pm ops cl x i=true)(hs2:∀ x∈pre,pm ops cl x i=true){fr:Fr}{I:AH}(hl:vN B (join ro U) I)
  (h:qT P B (join ro U) N ops cl (ac5 P B ro U N ops cl Q (pre++i::post)) l1 fr I):D1 P B (join ro U) N ops cl i (qT P B (join ro U) N ops cl (ac5 P B ro U N ops cl Q (pre++post)) l1) fr I:=by
 have hC:∀ l,pj (ac5 P B ro U N ops cl Q l):=fun l fr fr' I he ⟨fr2,h1,h2⟩=>⟨fr2,fun i=>(h1 i).trans (he i),h2⟩
 have h1:qT P B (join ro U) N ops cl (D1 P B (join ro U) N ops cl i (ac5 P B ro U N ops cl Q (pre++post))) l1 fr I:=by
  refine agJ ?_ l1 hl h
  rintro fr I hl ⟨fr',he,hd⟩
  obtain⟨g1,g2⟩:=aiM hr hl
  have hx:=aas (P:=P) (B:=B) (N:=N) hK post pre hs2 g2 (hd g1)
  show D1 P B (join ro U) N ops cl i _ fr I
  unfold qT D1 at hx
  unfold D1
  cases ho:ops[i]? with
  | none=>rw[ho]at hx;exact hx
  | some o=>
   rw[ho]at hx
   simp only[h0]at hx⊢
   obtain⟨k1,u,k2,k3⟩:=hx
   exact⟨k1,u,(k2.eq he).more,qB o.dst u fr',he.put _ _,fun _=>k3⟩
 rw[<-afH]at h1
 have:=aas (P:=P) (B:=B) (N:=N) (hC (pre++post)) [] l1 hs1 hl h1
 rw[List.append_nil]at this
 exact this
theorem agK{cl:Nat->Nat}{anc:List (Nat×Nat)}(ha:acJ ops anc=true)(hlt:∀ i,∀e∈qZ ops i,e<i){Q:Exit->Fr->AH->Prop}(hK:pj (Q .normal)){φ U:AH}
  (hp:∀ b o,U b=some o->φ b=none/\ro b=none):
  ∀(m:Nat) (l1 l2:List Nat) (listed:Array Bool) {fr:Fr} {I:AH} {a:Act} {w:World},l1.length+l2.length=m->listed.size=ops.size->chk ops cl anc (l1++l2)=true->(∀j∈l2,cl j=0\/∀ i∈l1,i∈qZ ops j\/(i,j)∈anc)->
   (∀i,i<ops.size->(listed.getD i true=false↔i∈l1++l2))->(∀i,i<ops.size->i∉l1++l2->∀ e∈qZ ops i,e∉l1++l2)->
   qT P B (join ro U) N ops cl (ac5 P B ro U N ops cl (Q .normal) l2) l1 fr I->Own B (join ro U) φ I w->xP N fr a->wpAny P .any ops (acF B ro N φ Q) m listed a w:=by
 have hC:∀ l,pj (ac5 P B ro U N ops cl (Q .normal) l):=fun l fr fr' I he ⟨fr2,h1,h2⟩=>⟨fr2,fun i=>(h1 i).trans (he i),h2⟩
 have nil:∀ (m:Nat) (l2:List Nat) (listed:Array Bool) {fr:Fr} {I:AH} {a:Act} {w:World},l2.length=m->listed.size=ops.size->chk ops cl anc l2=true->(∀i,i<ops.size->(listed.getD i true=false↔i∈l2))->(∀i,i<ops.size->i∉l2->∀ e∈qZ ops i,e∉l2)->
   ac5 P B ro U N ops cl (Q .normal) l2 fr I->Own B (join ro U) φ I w->xP N fr a->wpAny P .any ops (acF B ro N φ Q) m listed a w:=by
  intro m l2 listed fr I a w hn hsz hc hli hcl h ho hf
  obtain⟨fr',he,hd⟩:=h
  obtain⟨g1,g2⟩:=ho.unlend hp
  exact ub ha hlt hK m l2 listed hn hsz hc hli hcl (hd g2) g1 ⟨hf.size,hf.defers,fun i v hi=>hf.has i v (by rw[<-he i];exact hi)⟩
 intro m
 induction m with
 | zero=>
  intro l1 l2 listed fr I a w hn hsz hc haft hli hcl h ho hf
  obtain rfl:l1=[]:=List.length_eq_zero_iff.1 (by omega)
  exact nil 0 l2 listed (by simpa using hn) hsz hc hli hcl h ho hf
 | succ m ih=>
  intro l1 l2 listed fr I a w hn hsz hc haft hli hcl h ho hf
  by_cases hnil:l1=[]
  .subst hnil
   exact nil (m+1) l2 listed (by simpa using hn) hsz hc hli hcl h ho hf
  obtain⟨l,hl⟩:∃ l,l=l1++l2:=⟨_,rfl⟩
  rw[<-hl]at hc hli hcl
  have hlist:∀ e,e<ops.size->e∉l->listed.getD e false=true:=by
   intro e he hne
   have h1:¬ listed.getD e true=false:=fun q=>hne ((hli e he).1 q)
   have hlt':e<listed.size:=by omega
   simp only[Array.getD_eq_getD_getElem?,Array.getElem?_eq_getElem hlt',Option.getD_some]at h1⊢
   simpa using h1
  refine⟨?_,?_⟩
  .intro hr
   exfalso
   cases l with
   | nil=>have:=congrArg List.length hl;simp at this;omega
   | cons x rest=>
    have hx:=aaN hc x (List.mem_cons_self ..)
    have:x∈Region.ready .any ops listed:=by
     refine aaM.2 ⟨hx.1,(hli x hx.1).2 (List.mem_cons_self ..),ops[x],by simp[hx.1],?_⟩
     intro e he
     have he':e∈qZ ops x:=by simp[qZ,hx.1];exact he
     simp only[chk,Bool.and_eq_true]at hc
     have h1:=List.all_eq_true.1 hc.1.1.1.1 e he'
     simp only[Bool.and_eq_true,decide_eq_true_eq,Bool.not_eq_true',List.contains_iff_mem,<-Bool.not_eq_true]at h1
     exact hlist e (by have:=h1.1;omega) h1.2
    rw[hr]at this;cases this
  .intro i hi
   obtain⟨h1,h2,o,hoi,h3⟩:=aaM.1 hi
   have hil:=(hli i h1).1 h2
   have hedge0:∀ e∈qZ ops i,e∉l:=by
    intro e he hm
    have he2:e∈aeI o:=by simpa [qZ,hoi]using he
    have h4:=h3 e he2
    have hlt':=(aaN hc e hm).1
    have:=(hli e hlt').2 hm
    have hs:e<listed.size:=by omega
    simp only[Array.getD_eq_getD_getElem?,Array.getElem?_eq_getElem hs,Option.getD_some]at this h4
    rw[this]at h4;cases h4
   have hanc:∀ x∈l,(x,i)∉anc:=fun x hxl h5=>by
    have hcl':∀ j,(j<ops.size->j∉l)->∀ e∈qZ ops j,(e<ops.size->e∉l):=by
     intro j hj e he hes
     by_cases hjs:j<ops.size
     .exact hcl j hjs (hj hjs) e he
     .simp[qZ,Array.getElem?_eq_none (Nat.le_of_not_lt hjs)]at he
    exact absurd hxl (aeJ (L:=fun j=>j<ops.size->j∉l) ha hlt hcl' x i (fun e he _=>hedge0 e he) h5 (aaN hc x hxl).1)
   have book:∀ pre post,l=pre++i::post->(∀x∈pre,pm ops cl x i=true)/\chk ops cl anc (pre++post)=true/\(∀j,j<ops.size->((listed.setIfInBounds i true).getD j true=false↔j∈pre++post))/\(∀j,j<ops.size->j∉pre++post->∀ e∈qZ ops j,e∉pre++post):=by
    intro pre post hlp
    have hc0:=hc
    rw[hlp]at hc0
    have hpass:∀ x∈pre,pm ops cl x i=true:=by
     have gen:∀ (p:List Nat),chk ops cl anc (p++i::post)=true->∀ x∈p,pm ops cl x i=true\/x∈qZ ops i\/(x,i)∈anc:=by
      intro p
      induction p with
      | nil=>intro _ x hx;cases hx
      | cons y p ihp=>
       intro hc x hx
       simp only[List.cons_append,chk,Bool.and_eq_true]at hc
       rcases List.mem_cons.1 hx with rfl | hx
       .have:=List.all_eq_true.1 hc.1.2 i (by simp)
        simp only[Bool.or_eq_true,List.contains_iff_mem]at this
        rcases this with(h | h) | h
        .exact .inl h
        .exact .inr (.inl h)
        .exact .inr (.inr h)
       .exact ihp hc.2 x hx
     intro x hx
     have hxm:x∈l:=by rw[hlp];exact List.mem_append_left _ hx
     rcases gen pre hc0 x hx with h | h | h
     .exact h
     .exact absurd hxm (hedge0 x h)
     .exact absurd h (hanc x hxm)
    have hnd:i∉pre++post:=by
     have:(pre++i::post).Nodup:=by
      have gen:∀ l:List Nat,chk ops cl anc l=true->l.Nodup:=by
       intro l
       induction l with
       | nil=>intro _;exact List.nodup_nil
       | cons y r ihr=>
        intro hc
        simp only[chk,Bool.and_eq_true,Bool.not_eq_true']at hc
        refine List.nodup_cons.2 ⟨?_,ihr hc.2⟩
        have:=hc.1.1.1.2
        intro hm;rw[List.contains_iff_mem.2 hm]at this;cases this
      exact gen _ hc0
     have:=(List.perm_middle (a:=i) (l₁:=pre) (l₂:=post)).nodup_iff.1 this
     exact(List.nodup_cons.1 this).1
    have hc':chk ops cl anc (pre++post)=true:=by
     have gen:∀ (p:List Nat),chk ops cl anc (p++i::post)=true->chk ops cl anc (p++post)=true:=by
      intro p
      induction p with
      | nil=>intro hc;simp only[List.nil_append,chk,Bool.and_eq_true]at hc;exact hc.2
      | cons y p ihp=>
       intro hc
       simp only[List.cons_append,chk,Bool.and_eq_true]at hc⊢
       obtain⟨⟨⟨⟨c1,c2⟩,c3⟩,c4⟩,c5⟩:=hc
       refine⟨⟨⟨⟨?_,?_⟩,c3⟩,?_⟩,ihp c5⟩
       .refine List.all_eq_true.2 fun e he=>?_
        have:=List.all_eq_true.1 c1 e he
        simp only[Bool.and_eq_true,Bool.not_eq_true',<-Bool.not_eq_true,List.contains_iff_mem]at this⊢
        refine⟨this.1,fun hm=>this.2 ?_⟩
        simp only[List.mem_cons,List.mem_append]at hm⊢
        rcases hm with h | h | h
        .exact .inl h
        .exact .inr (.inl h)
        .exact .inr (.inr (.inr h))
       .simp only[Bool.not_eq_true',<-Bool.not_eq_true,List.contains_iff_mem]at c2⊢
        intro hm;apply c2
        simp only[List.mem_append,List.mem_cons]at hm⊢
        exact hm.imp id .inr
       .refine List.all_eq_true.2 fun j hj=>List.all_eq_true.1 c4 j ?_
        simp only[List.mem_append,List.mem_cons]at hj⊢
        exact hj.imp id .inr
     exact gen pre hc0
    have hmem:∀ j,j∈pre++post↔j∈l/\j≠i:=by
     intro j
     rw[hlp]
     simp only[List.mem_append,List.mem_cons]
     constructor
     .intro(hh:j∈pre\/j∈post)
      refine⟨hh.imp id .inr,fun e=>?_⟩
      subst e;exact hnd (List.mem_append.2 hh)
     .rintro⟨h | h | h,hne⟩
      .exact .inl h
      .exact absurd h hne
      .exact .inr h
    refine⟨hpass,hc',fun j hj=>?_,fun j hj hjn e he hm=>?_⟩
    .rw[hmem]
     by_cases e:j=i
     .subst e
      have:j<listed.size:=by omega
      simp[Array.getD_eq_getD_getElem?,this]
     .rw[ub.Region_getD_set e]
      constructor
      .intro h;exact⟨(hli j hj).1 h,e⟩
      .intro h;exact(hli j hj).2 h.1
    .have hm':=((hmem e).1 hm).1
     by_cases e':j=i
     .subst e';exact hedge0 e he hm'
     .exact hcl j hj (fun hh=>hjn ((hmem j).2 ⟨hh,e'⟩)) e he hm'
   rw[hl]at hil
   rcases List.mem_append.1 hil with hi1 | hi2
   .obtain⟨pre,post1,rfl⟩:=List.append_of_mem hi1
    obtain⟨b1,b2,b3,b4⟩:=book pre (post1++l2) (by rw[hl];simp)
    rw[<-List.append_assoc]at b2 b3 b4
    have hd:=aas (P:=P) (B:=B) (N:=N) (hC l2) post1 pre b1 ⟨φ,w,ho⟩ h
    refine ub.D1.sound hoi hd ho hf fun fr I a w hk ho hf=>ih (pre++post1) l2 _ ?_ (by simpa using hsz) b2 (fun j hj=>?_) b3 b4 hk ho hf
    .simp at hn ⊢;omega
    .exact(haft j hj).imp id fun h x hx=>h x (by simp only[List.mem_append,List.mem_cons]at hx ⊢;exact hx.imp id .inr)
   .have h0:cl i=0:=by
     rcases haft i hi2 with h | h
     .exact h
     .exfalso
      cases l1 with
      | nil=>exact hnil rfl
      | cons x r=>
       have hxl:x∈l:=by rw[hl];exact List.mem_append_left _ (List.mem_cons_self ..)
       rcases h x (List.mem_cons_self ..)with h5 | h5
       .exact hedge0 x h5 hxl
       .exact hanc x hxl h5
    obtain⟨pre,post,rfl⟩:=List.append_of_mem hi2
    obtain⟨b1,b2,b3,b4⟩:=book (l1++pre) post (by rw[hl];simp)
    rw[List.append_assoc]at b2 b3 b4
    have hr:qz U ro:=fun b o hb=>(hp b o hb).2
    have hd:=alv (P:=P) (B:=B) (N:=N) hK hr h0 (fun x hx=>b1 x (List.mem_append_left _ hx)) (fun x hx=>b1 x (List.mem_append_right _ hx)) ⟨φ,w,ho⟩ h
    refine ub.D1.sound hoi hd ho hf fun fr I a w hk ho hf=>ih l1 (pre++post) _ ?_ (by simpa using hsz) b2 (fun j hj=>haft j (by simp only[List.mem_append,List.mem_cons]at hj ⊢;exact hj.imp id .inr)) b3 b4 hk ho hf
    simp at hn ⊢;omega
def akR(ops:Array Oper)(cl:Nat->Nat)(anc:List (Nat×Nat))(l1 l2:List Nat):Bool:=l2.all fun j=>cl j == 0 || l1.all fun i=>(qZ ops j).contains i || anc.contains (i,j)
theorem AW.drawn2{id:Nat}{Q:Exit->Fr->AH->Prop}{fr:Fr}{I:AH}{K:AH->AH->Prop}(cl:Nat->Nat)(anc:List (Nat×Nat))(l1 l2:List Nat)(hm:P.follows .mixedOrders=true)(hl:pn I K)
  (hc:(chk ops cl anc (l1++l2) && acJ ops anc && ahC ops.size (l1++l2) && ((l1++l2).length == ops.size) && akR ops cl anc l1 l2)=true)
  (h:∀ U τ,K U τ->qT P B (join ro U) N ops cl (fun fr I=> ∃fr',wg fr' fr/\(qz U I->qT P B ro N ops cl (fun fr I=> ∃fr',wg fr' fr/\Q .normal fr' I) l2 fr' (join U I))) l1 fr τ):AW P B ro N (.region id ops true) Q fr I:=by
 obtain⟨U,τ,hd,rfl,hk⟩:=hl
 have h:=h U τ hk
 simp only[Bool.and_eq_true,beq_iff_eq]at hc
 obtain⟨⟨⟨⟨c1,c2⟩,c3⟩,c4⟩,c5⟩:=hc
 intro φ w a ho hf
 refine wp_region_any hm ?_
 have hp:∀ b o,U b=some o->φ b=none/\ro b=none:=fun b o hs=>(ho.own b o (zD hs)).2
 have hall:∀ i,i<ops.size->i∈l1++l2:=fun i hi=>List.contains_iff_mem.1 (List.all_eq_true.1 c3 i (List.mem_range.2 hi))
 have hlt:∀ i,∀e∈qZ ops i,e<i:=by
  intro i e he
  by_cases hi:i<ops.size
  .exact(aaN c1 i (hall i hi)).2 e he
  .simp[qZ,Array.getElem?_eq_none (Nat.le_of_not_lt hi)]at he
 have hw:Own B (join ro U) φ τ {w with drawn:=w.drawn+1}:=(ho.lend hd).drawn _
 have haft:∀ j∈l2,cl j=0\/∀ i∈l1,i∈qZ ops j\/(i,j)∈anc:=fun j hj=>by
  have:=List.all_eq_true.1 c5 j hj
  simp only[Bool.or_eq_true,beq_iff_eq]at this
  refine this.imp (fun x=>x) fun h i hi=>?_
  have:=List.all_eq_true.1 h i hi
  simpa using this
 have:=agK (P:=P) (B:=B) (ro:=ro) (N:=N) (ops:=ops) (cl:=cl) (anc:=anc) c2 hlt
  (Q:=fun e fr I=>e= .normal/\∃ fr',wg fr' fr/\Q .normal fr' I)
  (fun fr fr' I he ⟨h0,fr2,h1,h2⟩=>⟨h0,fr2,fun i=>(h1 i).trans (he i),h2⟩) (φ:=φ) (U:=U) hp (l1.length+l2.length) l1 l2 (Array.replicate ops.size false)
  (w:={w with drawn:=w.drawn+1}) (a:=a) (fr:=fr) (I:=τ) rfl (by simp) c1 haft
  (fun i hi=>⟨fun _=>hall i hi,fun _=>by simp[hi]⟩) (fun i hi hn=>absurd (hall i hi) hn) ?_ hw hf
 .have hlen:l1.length+l2.length=ops.size:=by rw[<-List.length_append];exact c4
  rw[hlen]at this
  refine AW.drawn.wpAny_post ?_ _ _ this
  rintro e a' w' ⟨fr',I',⟨rfl,fr2,he,hq⟩,ho',hf'⟩
  exact⟨fr2,_,hq,ho',⟨hf'.size,hf'.defers,fun i v hi=>hf'.has i v (by rw[<-he i];exact hi)⟩⟩
 .refine AW.drawn.DOps_post ?_ l1 h
  rintro fr I ⟨fr',h1,h2⟩;refine⟨fr',h1,fun hd=>AW.drawn.DOps_post ?_ l2 (h2 hd)⟩
  intro fr I hk;exact⟨rfl,hk⟩
end
end SL
namespace G
open Go SL
variable{B:World}{ro I:AH}
def vh(B:World)(ro:AH)(u0:Nat)(u1:Sl)(Q:Sl->Int->AH->Prop)(u2:Bool)(I:AH):=
 if u2=true then
 Q (⟨none,0,0⟩:Sl) 170 I
 else
 yp B ro I fun u3 I=>
 ∃u4,qa ro I ⟨u0,0,none⟩=some (.int .i64 u4)/\
 nw ro I (.cells #[.int .i64 u4] 3) fun u5 I=>
 wb B ro u3 (⟨some ⟨u5,0,none⟩,1,1⟩:Sl) I fun I=>
 ∃u6,qa ro I ((⟨u0,0,none⟩:Addr).add 1)=some (.string u6)/\
 nw ro I (.cells #[.string u6] 9) fun u7 I=>
 zY B ro u3 (⟨some ⟨u7,0,none⟩,1,1⟩:Sl) I fun I=>
 ∃u8,qa ro I ((⟨u0,0,none⟩:Addr).add 2)=some (.int .i64 u8)/\
 ∃u9,qa ro I ((⟨u0,0,none⟩:Addr).add 3)=some (.int .i64 u9)/\
 ∃u10,qa ro I ((⟨u0,0,none⟩:Addr).add 4)=some (.int .i64 u10)/\
 ∃u11,qa ro I ((⟨u0,0,none⟩:Addr).add 5)=some (.int .i64 u11)/\
 ∃u12,qa ro I ((⟨u0,0,none⟩:Addr).add 6)=some (.int .i64 u12)/\
 ∃u13,qa ro I ((⟨u0,0,none⟩:Addr).add 7)=some (.int .i64 u13)/\
 nw ro I (.cells #[.int .i64 u8,.int .i64 u9,.int .i64 u10,.int .i64 u11,.int .i64 u12,.int .i64 u13] 3) fun u14 I=>
 wb B ro u3 (⟨some ⟨u14,0,none⟩,6,6⟩:Sl) I fun I=>
 nw ro I (.cells #[Sl.v u1] 24) fun u15 I=>
 vM B ro u3 (⟨some ⟨u15,0,none⟩,1,1⟩:Sl) I fun I=>
 ∃u16,qa ro I ((⟨u0,0,none⟩:Addr).add 9)=some (.string u16)/\
 nw ro I (.cells #[.string u16] 9) fun u17 I=>
 zY B ro u3 (⟨some ⟨u17,0,none⟩,1,1⟩:Sl) I fun I=>
 pn I fun U I=>
 ∃u18,qa (join ro U) (fun _=>none) ((⟨u0,0,none⟩:Addr).add 11)=some (.int .i64 u18)/\
 ∃u19,qa (join ro U) (fun _=>none) ((⟨u0,0,none⟩:Addr).add 12)=some (Sl.v u19)/\
 ∃u20,qa (join ro U) I ((⟨u0,0,none⟩:Addr).add 10)=some (.bool u20)/\
 aeb B (join ro U) u20 I fun u21 I=>
 nw (join ro U) I (.cells #[.int .i64 u21,.int .i64 u18,.int .i64 (u19.len:Int)] 3) fun u22 I=>
 wb B (join ro U) u3 (⟨some ⟨u22,0,none⟩,3,3⟩:Sl) I fun I=>
 (qz U I->(fun I=>
  ∃u23,qa ro I ((⟨u0,0,none⟩:Addr).add 12)=some (Sl.v u23)/\
  wb B ro u3 u23 I fun I=>
  xt B ro u3 I fun u24 u25 I=>
  if(¬(u25=0))\/(32768<(u24.len:Int))then
  Q (⟨none,0,0⟩:Sl) 170 I
  else
  Q u24 0 I) (join U I))
def aad(B:World)(ro:AH)(a0_0:Int)(a0_1:ByteArray)(a0_2 a0_3 a0_4 a0_5 a0_6 a0_7:Int)(a0_8:Sl)(a0_9:ByteArray)(a0_10:Bool)(a0_11:Int)(a0_12:Sl)(I:AH)(Q:Sl->Int->AH->Prop):=
 nw ro I (.cells #[.int .i64 a0_0,.string a0_1,.int .i64 a0_2,.int .i64 a0_3,.int .i64 a0_4,.int .i64 a0_5,.int .i64 a0_6,.int .i64 a0_7,Sl.v a0_8,.string a0_9,.bool a0_10,.int .i64 a0_11,Sl.v a0_12] 57) fun u0 I=>
 ∃u1,qa ro I ((⟨u0,0,none⟩:Addr).add 8)=some (Sl.v u1)/\
 aca B ro u1 I fun u2 u3 I=>
 if¬(u3=0)then
 vh B ro u0 u2 Q true I
 else
 ∃u4,qa ro I ((⟨u0,0,none⟩:Addr).add 12)=some (Sl.v u4)/\
 vh B ro u0 u2 Q (decide (7<(u4.len:Int))) I
theorem aes{a0_0:Int}{a0_1:ByteArray}{a0_2 a0_3 a0_4 a0_5 a0_6 a0_7:Int}{a0_8:Sl}{a0_9:ByteArray}{a0_10:Bool}{a0_11:Int}{a0_12:Sl}{Q:Sl->Int->AH->Prop}(h:Sep ro I->aad B ro a0_0 a0_1 a0_2 a0_3 a0_4 a0_5 a0_6 a0_7 a0_8 a0_9 a0_10 a0_11 a0_12 I Q):kz B ro a0_0 a0_1 a0_2 a0_3 a0_4 a0_5 a0_6 a0_7 a0_8 a0_9 a0_10 a0_11 a0_12 I Q:=by
 refine zb h func30 ntmps30 fun h=>?_;unfold aad at h;refine z3 ?_;refine zA (vq rfl rfl) h fun u0 h=>?_;iterate 2 refine zp ?_
 refine z4 ?_;refine zf underlying57 adt ?_;refine zL underlying54 h fun u1 h=>?_;refine zc func90 h ?_;rintro v I ⟨u2,u3,rfl,h⟩;iterate 5 refine zp ?_
 refine z2 (AW.seq (z3 ?_))
 iterate 3 refine zp ?_
 refine qq 5 (!(decide (u3=0))) (qt decide_eq_true_iff) h (fun fr I=> ∃(u4:Bool),qk [(1,.pointer (some ⟨u0,0,none⟩)),(4,Sl.v u2),(21,.bool u4)] fr/\vh B ro u0 u2 Q u4 I) ?_ ?_ ?_
 .intro h e2 hk2;iterate 4 refine zn e2 ?_
  refine zk e2 ?_;exact hk2 _ _ ⟨_,FL,h⟩
 .intro h e2 hk2;refine qr (qx rfl underlying57 rfl xR (by decide) rfl) rfl rfl rfl rfl e2 ?_
  obtain⟨u5,hc,h⟩:=h
  refine Lyb rfl rfl rfl rfl e2 (qM rfl underlying55 rfl rfl hc ?_)
  refine qr (qJ rfl rfl underlying55 rfl rfl) rfl rfl rfl rfl e2 ?_
  refine zy e2 ?_;refine zk e2 ?_;exact hk2 _ _ ⟨_,FL,h⟩
 rintro fr I ⟨u4,hl,h⟩;unfold vh at h;refine Lfr hl ?_
 refine z2 ?_;refine zj h (fun h=>?_) fun h=>?_
 .refine z3 ?_;iterate 2 refine zp ?_
  refine z2 ?_;refine AW.ret ?_;refine qi ?_;exact bR2 results30 rfl rfl ⟨_,_,rfl,h⟩
 refine AW.skip ?_;refine qc (z3 ?_);refine zc func43 h ?_;rintro v I ⟨u6,rfl,h⟩;refine zp ?_;refine z4 ?_;refine zp ?_;refine zf underlying57 ty3 ?_;refine zL underlying3 h fun u7 h=>?_;refine zA (wI (vs:=[(0,.int .i64 u7)]) (cs:= #[.int .i64 u7]) rfl underlying55 ty3 (by decide) rfl rfl) h fun u8 h=>?_;refine zc func44 h ?_;rintro v I ⟨rfl,h⟩;refine z4 ?_;refine zp ?_
 refine zf underlying57 ty9 ?_;refine zL underlying9 h fun u9 h=>?_;refine zA (wI (vs:=[(0,.string u9)]) (cs:= #[.string u9]) rfl underlying27 ty9 (by decide) rfl rfl) h fun u10 h=>?_;refine zc func45 h ?_;rintro v I ⟨rfl,h⟩;refine z4 ?_;refine zp ?_;refine zf underlying57 ty3 ?_;refine zL underlying3 h fun u11 h=>?_;refine zf underlying57 ty3 ?_;refine zL underlying3 h fun u12 h=>?_
 refine zf underlying57 ty3 ?_;refine zL underlying3 h fun u13 h=>?_;refine zf underlying57 ty3 ?_;refine zL underlying3 h fun u14 h=>?_;refine zf underlying57 ty3 ?_;refine zL underlying3 h fun u15 h=>?_;refine zf underlying57 ty3 ?_;refine zL underlying3 h fun u16 h=>?_;refine zA (wI (vs:=[(0,.int .i64 u11),(1,.int .i64 u12),(2,.int .i64 u13),(3,.int .i64 u14),(4,.int .i64 u15),(5,.int .i64 u16)]) (cs:= #[.int .i64 u11,.int .i64 u12,.int .i64 u13,.int .i64 u14,.int .i64 u15,.int .i64 u16]) rfl underlying55 ty3 (by decide) rfl rfl) h fun u17 h=>?_
 refine zc func44 h ?_;rintro v I ⟨rfl,h⟩;refine z4 ?_;iterate 2 refine zp ?_
 refine zA (wI (vs:=[(0,Sl.v u2)]) (cs:= #[Sl.v u2]) rfl underlying227 qV (by decide) rfl rfl) h fun u18 h=>?_;refine zc func46 h ?_;rintro v I ⟨rfl,h⟩;refine z4 ?_;refine zp ?_;refine zf underlying57 ty9 ?_;refine zL underlying9 h fun u19 h=>?_;refine zA (wI (vs:=[(0,.string u19)]) (cs:= #[.string u19]) rfl underlying27 ty9 (by decide) rfl rfl) h fun u20 h=>?_;refine zc func45 h ?_
 rintro v I ⟨rfl,h⟩;refine z2 (AW.seq ?_)
 refine AW.drawnL (fun i=>([0,0,3,2,0,0,0,0,0,1,2]:List Nat).getD i 2) [(2,3),(2,9),(2,10)] [0,1,4,5,6,7,8,2,3,9,10] mixed h (by decide+kernel) ?_
 clear h
 intro U I h
 refine zq ?_;refine zg underlying57 ty4 ?_;refine zg underlying57 ty3 ?_;obtain⟨u21,hc,h⟩:=h
 refine Dp rfl rfl rfl rfl (zS rfl underlying3 rfl rfl hc) ?_
 refine zg underlying57 xR ?_;obtain⟨u22,hc,h⟩:=h
 refine Dp rfl rfl rfl rfl (zS rfl underlying55 rfl rfl hc) ?_
 refine Dp rfl rfl rfl rfl (qJ rfl rfl underlying55 rfl rfl) ?_
 obtain⟨u23,hc,h⟩:=h
 refine Dr rfl rfl rfl rfl (vb rfl underlying4 rfl rfl hc) ?_
 refine Dg rfl rfl rfl rfl (qF rfl func91 rfl rfl rfl (qb.mono h ?_))
 rintro v I ⟨u24,rfl,h⟩;refine Da rfl rfl rfl rfl (wI (vs:=[(0,.int .i64 u24),(1,.int .i64 u21),(2,.int .i64 (u22.len:Int))]) (cs:= #[.int .i64 u24,.int .i64 u21,.int .i64 (u22.len:Int)]) rfl underlying55 ty3 (by decide) rfl rfl) fun u25 g1 g2=>?_
 replace h:=h u25 g1 g2
 refine Dg rfl rfl rfl rfl (qF rfl func44 rfl rfl rfl (qb.mono h ?_))
 rintro v I ⟨rfl,h⟩;refine⟨_,wg.refl _,fun hdj=>?_⟩
 replace h:=h hdj
 refine qc (z3 ?_);refine zp ?_;refine zf underlying57 xR ?_;refine zL underlying55 h fun u26 h=>?_;refine zc func44 h ?_;rintro v I ⟨rfl,h⟩;refine z4 ?_;refine zp ?_;refine zc func47 h ?_;rintro v I ⟨u27,u28,rfl,h⟩;iterate 5 refine zp ?_
 refine z2 (AW.seq (z3 ?_))
 iterate 3 refine zp ?_
 refine qX 4 (!(decide (u28=0))) [(7,Sl.v u27),(83,.bool ((!(decide (u28=0))) || (decide (32768<(u27.len:Int)))))] ?_ ?_ ?_
 .intro e2 hk2
  iterate 3 refine zn e2 ?_
  refine zk e2 ?_;exact hk2 _ (Fe e2)
 .intro e2 hk2
  refine zy e2 ?_;refine qr (qJ rfl rfl underlying24 rfl rfl) rfl rfl rfl rfl e2 ?_
  refine zy e2 ?_;refine zk e2 ?_;exact hk2 _ (Fe e2)
 intro fr hl
 refine Lfr hl ?_
 refine z2 ?_;refine AW.iff rfl (wt (qt decide_eq_true_iff) decide_eq_true_iff) h (fun h=>?_) (fun h=>?_)
 .refine z3 ?_;iterate 2 refine zp ?_
  refine z2 ?_;refine AW.ret ?_;refine qi ?_;exact bR2 results30 rfl rfl ⟨_,_,rfl,h⟩
 refine AW.skip ?_;refine qc (z3 ?_);iterate 3 refine zp ?_
 refine z2 ?_;refine AW.ret ?_;exact bR2 results30 rfl rfl ⟨_,_,rfl,h⟩
def zh(B:World)(ro:AH)(a0:Sl)(u0 u1:Nat)(Q:Int->ByteArray->Int->Int->Int->Int->Int->Int->Sl->ByteArray->Bool->Int->Sl->Int->AH->Prop)(u2:Bool)(I:AH):=
 if(u2=true)\/(32768<(a0.len:Int))then
 stN ⟨u0,0,none⟩ (fun I=>
  ∃u3 u4 u5 u6 u7 u8 u9 u10 u11 u12 u13 u14 u15,qj ro I ⟨u0,0,none⟩ 0 [.int .i64 u3,.string u4,.int .i64 u5,.int .i64 u6,.int .i64 u7,.int .i64 u8,.int .i64 u9,.int .i64 u10,Sl.v u11,.string u12,.bool u13,.int .i64 u14,Sl.v u15]/\
  Q u3 u4 u5 u6 u7 u8 u9 u10 u11 u12 u13 u14 u15 13 I) [.int .i64 0,.string ByteArray.empty,.int .i64 0,.int .i64 0,.int .i64 0,.int .i64 0,.int .i64 0,.int .i64 0,Sl.v (⟨none,0,0⟩:Sl),.string ByteArray.empty,.bool false,.int .i64 0,Sl.v (⟨none,0,0⟩:Sl)] 0 I
 else
 ∃u16 u17 u18 u19 u20 u21 u22 u23 u24 u25 u26 u27 u28,qj ro I ⟨u1,0,none⟩ 0 [.int .i64 u16,.string u17,.int .i64 u18,.int .i64 u19,.int .i64 u20,.int .i64 u21,.int .i64 u22,.int .i64 u23,Sl.v u24,.string u25,.bool u26,.int .i64 u27,Sl.v u28]/\
 stN ⟨u0,0,none⟩ (fun I=>
 ∃u29 u30 u31 u32 u33 u34 u35 u36 u37 u38 u39 u40 u41,qj ro I ⟨u0,0,none⟩ 0 [.int .i64 u29,.string u30,.int .i64 u31,.int .i64 u32,.int .i64 u33,.int .i64 u34,.int .i64 u35,.int .i64 u36,Sl.v u37,.string u38,.bool u39,.int .i64 u40,Sl.v u41]/\
 Q u29 u30 u31 u32 u33 u34 u35 u36 u37 u38 u39 u40 u41 0 I) [.int .i64 u16,.string u17,.int .i64 u18,.int .i64 u19,.int .i64 u20,.int .i64 u21,.int .i64 u22,.int .i64 u23,Sl.v u24,.string u25,.bool u26,.int .i64 u27,Sl.v u28] 0 I
def vF(B:World)(ro:AH)(a0:Sl)(u0 u1:Nat)(u2 u3:Int)(Q:Int->ByteArray->Int->Int->Int->Int->Int->Int->Sl->ByteArray->Bool->Int->Sl->Int->AH->Prop)(u4:Bool)(I:AH):=
 if((u4=true)\/(¬(u2=0)))\/(1<u3)then
 zh B ro a0 u0 u1 Q true I
 else
 ∃u5,qa ro I ((⟨u1,0,none⟩:Addr).add 12)=some (Sl.v u5)/\
 zh B ro a0 u0 u1 Q (decide (7<(u5.len:Int))) I
def aae(B:World)(ro:AH)(a0:Sl)(I:AH)(Q:Int->ByteArray->Int->Int->Int->Int->Int->Int->Sl->ByteArray->Bool->Int->Sl->Int->AH->Prop):=
 nw ro I (.cells #[.int .i64 0,.string ByteArray.empty,.int .i64 0,.int .i64 0,.int .i64 0,.int .i64 0,.int .i64 0,.int .i64 0,Sl.v (⟨none,0,0⟩:Sl),.string ByteArray.empty,.bool false,.int .i64 0,Sl.v (⟨none,0,0⟩:Sl)] 57) fun u0 I=>
 yq B ro a0 I fun u1 I=>
 qL B ro u1 I fun u2 I=>
 kf B ro u1 I fun u3 I=>
 qL B ro u1 I fun u4 I=>
 qL B ro u1 I fun u5 I=>
 qL B ro u1 I fun u6 I=>
 qL B ro u1 I fun u7 I=>
 qL B ro u1 I fun u8 I=>
 qL B ro u1 I fun u9 I=>
 nw ro I (.cells #[.int .i64 0,.string ByteArray.empty,.int .i64 0,.int .i64 0,.int .i64 0,.int .i64 0,.int .i64 0,.int .i64 0,Sl.v (⟨none,0,0⟩:Sl),.string ByteArray.empty,.bool false,.int .i64 0,Sl.v (⟨none,0,0⟩:Sl)] 57) fun u10 I=>
 stN ⟨u10,0,none⟩ (fun I=>
 kh B ro u1 I fun u11 I=>
 aaJ B ro u11 I fun u12 u13 I=>
 kf B ro u1 I fun u14 I=>
 stN ((⟨u10,0,none⟩:Addr).add 8) (fun I=>
  stN ((⟨u10,0,none⟩:Addr).add 9) (fun I=>
  qL B ro u1 I fun u15 I=>
  qL B ro u1 I fun u16 I=>
  uP B ro u1 I fun u17 I=>
  stN ((⟨u10,0,none⟩:Addr).add 10) (fun I=>
   stN ((⟨u10,0,none⟩:Addr).add 11) (fun I=>
   stN ((⟨u10,0,none⟩:Addr).add 12) (fun I=>
    xu B ro u1 I fun u18 I=>
    if¬(u18=0)then
    vF B ro a0 u0 u10 u13 u15 Q true I
    else
    js B ro u1 I fun u19 I=>
    vF B ro a0 u0 u10 u13 u15 Q (decide (0<u19)) I) [Sl.v u17] 0 I) [.int .i64 u16] 0 I) [.bool (decide (u15=1))] 0 I) [.string u14] 0 I) [Sl.v u12] 0 I) [.int .i64 u2,.string u3,.int .i64 u4,.int .i64 u5,.int .i64 u6,.int .i64 u7,.int .i64 u8,.int .i64 u9,Sl.v (⟨none,0,0⟩:Sl),.string ByteArray.empty,.bool false,.int .i64 0,Sl.v (⟨none,0,0⟩:Sl)] 0 I
theorem aet{a0:Sl}{Q:Int->ByteArray->Int->Int->Int->Int->Int->Int->Sl->ByteArray->Bool->Int->Sl->Int->AH->Prop}(h:Sep ro I->aae B ro a0 I Q):kG B ro a0 I Q:=by
 refine zb h func33 ntmps33 fun h=>?_;unfold aae at h;refine z3 ?_;refine zA (wH rfl zK) h fun u0 h=>?_;refine zp ?_;refine z4 ?_;refine zp ?_;refine zc func53 h ?_;rintro v I ⟨u1,rfl,h⟩;refine zp ?_;refine z4 ?_;refine zp ?_;refine zc func54 h ?_;rintro v I ⟨u2,rfl,h⟩;refine zp ?_;refine zc func55 h ?_;rintro v I ⟨u3,rfl,h⟩;refine zp ?_;refine zc func54 h ?_
 rintro v I ⟨u4,rfl,h⟩;refine zp ?_;refine zc func54 h ?_;rintro v I ⟨u5,rfl,h⟩;refine zp ?_;refine zc func54 h ?_;rintro v I ⟨u6,rfl,h⟩;refine zp ?_;refine zc func54 h ?_;rintro v I ⟨u7,rfl,h⟩;refine zp ?_;refine zc func54 h ?_;rintro v I ⟨u8,rfl,h⟩;refine zp ?_;refine zc func54 h ?_;rintro v I ⟨u9,rfl,h⟩;refine zm (wV (vs:=[(0,.int .i64 u2),(1,.string u3),(2,.int .i64 u4),(3,.int .i64 u5),(4,.int .i64 u6),(5,.int .i64 u7),(6,.int .i64 u8),(7,.int .i64 u9)]) (cs:= #[.int .i64 u2,.string u3,.int .i64 u4,.int .i64 u5,.int .i64 u6,.int .i64 u7,.int .i64 u8,.int .i64 u9,Sl.v (⟨none,0,0⟩:Sl),.string ByteArray.empty,.bool false,.int .i64 0,Sl.v (⟨none,0,0⟩:Sl)]) rfl underlying57 zK ai7 rfl (by kernel_rfl)) ?_
 refine zA (wH rfl zK) h fun u10 h=>?_;refine zs zK h fun I h=>?_;refine z4 ?_;refine zp ?_;refine zc func56 h ?_;rintro v I ⟨u11,rfl,h⟩;refine zc func94 h ?_;rintro v I ⟨u12,u13,rfl,h⟩;iterate 5 refine zp ?_
 refine z4 ?_;iterate 2 refine zp ?_
 refine zc func55 h ?_;rintro v I ⟨u14,rfl,h⟩;refine zf underlying57 adt ?_;refine zs adt h fun I h=>?_;refine zf underlying57 ty9 ?_;refine zs ty9 h fun I h=>?_;refine z4 ?_;refine zp ?_;refine zc func54 h ?_;rintro v I ⟨u15,rfl,h⟩;refine zp ?_;refine z4 ?_;iterate 3 refine zp ?_
 refine zc func54 h ?_;rintro v I ⟨u16,rfl,h⟩;refine zp ?_;refine zc func95 h ?_;rintro v I ⟨u17,rfl,h⟩;refine zf underlying57 ty4 ?_;refine zs ty4 h fun I h=>?_;refine zf underlying57 ty3 ?_;refine zs ty3 h fun I h=>?_;refine zf underlying57 xR ?_;refine zs xR h fun I h=>?_;refine z2 (AW.seq (z3 ?_))
 refine zp ?_;refine zc func57 h ?_;rintro v I ⟨u18,rfl,h⟩;iterate 2 refine zp ?_
 refine qq 4 (!(decide (u18=0))) (qt decide_eq_true_iff) h (fun fr I=> ∃(u19:Bool),qk [(0,Sl.v a0),(2,.pointer (some ⟨u0,0,none⟩)),(5,.pointer (some ⟨u10,0,none⟩)),(7,.int .i64 u13),(8,.int .i64 u15),(57,.bool u19)] fr/\vF B ro a0 u0 u10 u13 u15 Q u19 I) ?_ ?_ ?_
 .intro h e3 hk3;iterate 3 refine zn e3 ?_
  refine zk e3 ?_;exact hk3 _ _ ⟨_,FL,h⟩
 .intro h e3 hk3;refine zy e3 ?_;refine Lyb rfl rfl rfl rfl e3 (qF rfl func58 rfl rfl rfl (qb.mono h ?_))
  rintro v I ⟨u20,rfl,h⟩;refine zy e3 ?_;refine zk e3 ?_;exact hk3 _ _ ⟨_,FL,h⟩
 rintro fr I ⟨u19,hl,h⟩;unfold vF at h;refine Lfr hl ?_
 refine zp ?_;refine qX 3 u19 [(0,Sl.v a0),(2,.pointer (some ⟨u0,0,none⟩)),(5,.pointer (some ⟨u10,0,none⟩)),(8,.int .i64 u15),(61,.bool (u19 || (!(decide (u13=0)))))] ?_ ?_ ?_
 .intro e8 hk8
  iterate 2 refine zn e8 ?_
  refine zk e8 ?_;exact hk8 _ (Fe e8)
 .intro e8 hk8
  refine zy e8 ?_;refine zy e8 ?_;refine zk e8 ?_;exact hk8 _ (Fe e8)
 intro fr hl
 refine Lfr hl ?_
 refine zp ?_;refine qX 3 (u19 || (!(decide (u13=0)))) [(0,Sl.v a0),(2,.pointer (some ⟨u0,0,none⟩)),(5,.pointer (some ⟨u10,0,none⟩)),(65,.bool ((u19 || (!(decide (u13=0)))) || (decide (1<u15))))] ?_ ?_ ?_
 .intro e12 hk12
  iterate 2 refine zn e12 ?_
  refine zk e12 ?_;exact hk12 _ (Fe e12)
 .intro e12 hk12
  refine zy e12 ?_;refine zy e12 ?_;refine zk e12 ?_;exact hk12 _ (Fe e12)
 intro fr hl
 refine Lfr hl ?_
 refine zp ?_;refine qq 5 ((u19 || (!(decide (u13=0)))) || (decide (1<u15))) (wt (wt Iff.rfl (qt decide_eq_true_iff)) decide_eq_true_iff) h (fun fr I=> ∃(u21:Bool),qk [(0,Sl.v a0),(2,.pointer (some ⟨u0,0,none⟩)),(5,.pointer (some ⟨u10,0,none⟩)),(71,.bool u21)] fr/\zh B ro a0 u0 u10 Q u21 I) ?_ ?_ ?_
 .intro h e16 hk16;iterate 4 refine zn e16 ?_
  refine zk e16 ?_;exact hk16 _ _ ⟨_,FL,h⟩
 .intro h e16 hk16;refine qr (qx rfl underlying57 rfl xR (by decide) rfl) rfl rfl rfl rfl e16 ?_
  obtain⟨u22,hc,h⟩:=h
  refine Lyb rfl rfl rfl rfl e16 (qM rfl underlying55 rfl rfl hc ?_)
  refine qr (qJ rfl rfl underlying55 rfl rfl) rfl rfl rfl rfl e16 ?_
  refine zy e16 ?_;refine zk e16 ?_;exact hk16 _ _ ⟨_,FL,h⟩
 rintro fr I ⟨u21,hl,h⟩;unfold zh at h;refine Lfr hl ?_
 refine zp ?_;refine qX 4 u21 [(2,.pointer (some ⟨u0,0,none⟩)),(5,.pointer (some ⟨u10,0,none⟩)),(76,.bool (u21 || (decide (32768<(a0.len:Int)))))] ?_ ?_ ?_
 .intro e22 hk22
  iterate 3 refine zn e22 ?_
  refine zk e22 ?_;exact hk22 _ (Fe e22)
 .intro e22 hk22
  refine zy e22 ?_;refine qr (qJ rfl rfl underlying24 rfl rfl) rfl rfl rfl rfl e22 ?_
  refine zy e22 ?_;refine zk e22 ?_;exact hk22 _ (Fe e22)
 intro fr hl
 refine Lfr hl ?_
 refine z2 ?_;refine AW.iff rfl (wt Iff.rfl decide_eq_true_iff) h (fun h=>?_) (fun h=>?_)
 rotate_left
 .refine AW.skip ?_;refine qc (z3 ?_);obtain⟨u23,u24,u25,u26,u27,u28,u29,u30,u31,u32,u33,u34,u35,hc,h⟩:=h
  refine zl (jb rfl underlying57 rfl zK rfl hc ?_)
  refine zs zK h fun I h=>?_;refine zp ?_;refine z2 ?_;refine AW.ret ?_;obtain⟨u36,u37,u38,u39,u40,u41,u42,u43,u44,u45,u46,u47,u48,hc0,h⟩:=h
  exact bRM results33 (wS (jR rfl underlying57 rfl zK hc0) (wS (aaW rfl) jQ)) ⟨_,_,_,_,_,_,_,_,_,_,_,_,_,_,rfl,h⟩
 refine z3 ?_;refine zm (wV (vs:=[]) (cs:= #[.int .i64 0,.string ByteArray.empty,.int .i64 0,.int .i64 0,.int .i64 0,.int .i64 0,.int .i64 0,.int .i64 0,Sl.v (⟨none,0,0⟩:Sl),.string ByteArray.empty,.bool false,.int .i64 0,Sl.v (⟨none,0,0⟩:Sl)]) rfl underlying57 zK ai7 rfl (by kernel_rfl)) ?_;refine zs zK h fun I h=>?_;refine zp ?_;refine z2 ?_;refine AW.ret ?_
 refine qi ?_;obtain⟨u49,u50,u51,u52,u53,u54,u55,u56,u57,u58,u59,u60,u61,hc0,h⟩:=h
 exact bRM results33 (wS (jR rfl underlying57 rfl zK hc0) (wS (aaW rfl) jQ)) ⟨_,_,_,_,_,_,_,_,_,_,_,_,_,_,rfl,h⟩
def vj(B:World)(ro:AH)(u0 u1:Nat)(u2:Sl)(Q:Int->ByteArray->Sl->Int->AH->Prop)(u3:Bool)(I:AH):=
 if u3=true then
 stN ⟨u1,0,none⟩ (fun I=>
  ∃u4 u5 u6,qj ro I ⟨u1,0,none⟩ 0 [.int .i64 u4,.string u5,Sl.v u6]/\
  Q u4 u5 u6 170 I) [.int .i64 0,.string ByteArray.empty,Sl.v (⟨none,0,0⟩:Sl)] 0 I
 else
 ∃u7,qa ro I ⟨u0,0,none⟩=some (.int .i64 u7)/\
 if u7=8 then
 stN ⟨u1,0,none⟩ (fun I=>
  ∃u8 u9 u10,qj ro I ⟨u1,0,none⟩ 0 [.int .i64 u8,.string u9,Sl.v u10]/\
  Q u8 u9 u10 0 I) [.int .i64 2,.string ByteArray.empty,Sl.v u2] 0 I
 else
 ∃u11,qa ro I ((⟨u0,0,none⟩:Addr).add 1)=some (.string u11)/\
 jB B ro u11 I fun u12 I=>
 if¬(u12=true)then
 stN ⟨u1,0,none⟩ (fun I=>
  ∃u13 u14 u15,qj ro I ⟨u1,0,none⟩ 0 [.int .i64 u13,.string u14,Sl.v u15]/\
  Q u13 u14 u15 170 I) [.int .i64 0,.string ByteArray.empty,Sl.v (⟨none,0,0⟩:Sl)] 0 I
 else
 ∃u16,qa ro I ((⟨u0,0,none⟩:Addr).add 1)=some (.string u16)/\
 stN ⟨u1,0,none⟩ (fun I=>
 ∃u17 u18 u19,qj ro I ⟨u1,0,none⟩ 0 [.int .i64 u17,.string u18,Sl.v u19]/\
 Q u17 u18 u19 0 I) [.int .i64 1,.string u16,Sl.v u2] 0 I
def vT(B:World)(ro:AH)(u0 u1:Nat)(u2:Sl)(Q:Int->ByteArray->Sl->Int->AH->Prop)(u3:Bool)(I:AH):=
 if u3=true then
 vj B ro u0 u1 u2 Q true I
 else
 ∃u4,qa ro I ⟨u0,0,none⟩=some (.int .i64 u4)/\
 vj B ro u0 u1 u2 Q (decide (8<u4)) I
def aaf(B:World)(ro:AH)(a0_0:Int)(a0_1:ByteArray)(a0_2 a0_3 a0_4 a0_5 a0_6 a0_7:Int)(a0_8:Sl)(a0_9:ByteArray)(a0_10:Bool)(a0_11:Int)(a0_12:Sl)(I:AH)(Q:Int->ByteArray->Sl->Int->AH->Prop):=
 nw ro I (.cells #[.int .i64 a0_0,.string a0_1,.int .i64 a0_2,.int .i64 a0_3,.int .i64 a0_4,.int .i64 a0_5,.int .i64 a0_6,.int .i64 a0_7,Sl.v a0_8,.string a0_9,.bool a0_10,.int .i64 a0_11,Sl.v a0_12] 57) fun u0 I=>
 nw ro I (.cells #[.int .i64 0,.string ByteArray.empty,Sl.v (⟨none,0,0⟩:Sl)] 96) fun u1 I=>
 ∃u2 u3 u4 u5 u6 u7 u8 u9 u10 u11 u12 u13 u14,qj ro I ⟨u0,0,none⟩ 0 [.int .i64 u2,.string u3,.int .i64 u4,.int .i64 u5,.int .i64 u6,.int .i64 u7,.int .i64 u8,.int .i64 u9,Sl.v u10,.string u11,.bool u12,.int .i64 u13,Sl.v u14]/\
 kz B ro u2 u3 u4 u5 u6 u7 u8 u9 u10 u11 u12 u13 u14 I fun u15 u16 I=>
 if¬(u16=0)then
 vT B ro u0 u1 u15 Q true I
 else
 ∃u17,qa ro I ⟨u0,0,none⟩=some (.int .i64 u17)/\
 vT B ro u0 u1 u15 Q (decide (u17<1)) I
theorem aeu{a0_0:Int}{a0_1:ByteArray}{a0_2 a0_3 a0_4 a0_5 a0_6 a0_7:Int}{a0_8:Sl}{a0_9:ByteArray}{a0_10:Bool}{a0_11:Int}{a0_12:Sl}{Q:Int->ByteArray->Sl->Int->AH->Prop}(h:Sep ro I->aaf B ro a0_0 a0_1 a0_2 a0_3 a0_4 a0_5 a0_6 a0_7 a0_8 a0_9 a0_10 a0_11 a0_12 I Q):uN B ro a0_0 a0_1 a0_2 a0_3 a0_4 a0_5 a0_6 a0_7 a0_8 a0_9 a0_10 a0_11 a0_12 I Q:=by
 refine zb h func36 ntmps36 fun h=>?_;unfold aaf at h;refine z3 ?_;refine zA (vq rfl rfl) h fun u0 h=>?_;refine zA (wH rfl ut) h fun u1 h=>?_;refine zp ?_;refine z4 ?_;obtain⟨u2,u3,u4,u5,u6,u7,u8,u9,u10,u11,u12,u13,u14,hc,h⟩:=h
 refine zl (jb rfl underlying57 rfl zK rfl hc ?_)
 refine zc func30 h ?_;rintro v I ⟨u15,u16,rfl,h⟩;iterate 5 refine zp ?_
 refine z2 (AW.seq (AW.block (z3 ?_)))
 iterate 3 refine zp ?_
 refine qq 4 (!(decide (u16=0))) (qt decide_eq_true_iff) h (fun fr I=> ∃(u17:Bool),qk [(1,.pointer (some ⟨u0,0,none⟩)),(2,.pointer (some ⟨u1,0,none⟩)),(4,Sl.v u15),(18,.bool u17)] fr/\vT B ro u0 u1 u15 Q u17 I) ?_ ?_ ?_
 .intro h e2 hk2;iterate 3 refine zn e2 ?_
  refine zk e2 ?_;exact hk2 _ _ ⟨_,FL,h⟩
 .intro h e2 hk2;refine qr (qx rfl underlying57 rfl ty3 (by decide) rfl) rfl rfl rfl rfl e2 ?_
  obtain⟨u18,hc,h⟩:=h
  refine Lyb rfl rfl rfl rfl e2 (qM rfl underlying3 rfl rfl hc ?_)
  refine zy e2 ?_;refine zk e2 ?_;exact hk2 _ _ ⟨_,FL,h⟩
 rintro fr I ⟨u17,hl,h⟩;unfold vT at h;refine Lfr hl ?_
 refine zp ?_;refine qq 4 u17 Iff.rfl h (fun fr I=> ∃(u19:Bool),qk [(1,.pointer (some ⟨u0,0,none⟩)),(2,.pointer (some ⟨u1,0,none⟩)),(4,Sl.v u15),(23,.bool u19)] fr/\vj B ro u0 u1 u15 Q u19 I) ?_ ?_ ?_
 .intro h e7 hk7;iterate 3 refine zn e7 ?_
  refine zk e7 ?_;exact hk7 _ _ ⟨_,FL,h⟩
 .intro h e7 hk7;refine qr (qx rfl underlying57 rfl ty3 (by decide) rfl) rfl rfl rfl rfl e7 ?_
  obtain⟨u20,hc,h⟩:=h
  refine Lyb rfl rfl rfl rfl e7 (qM rfl underlying3 rfl rfl hc ?_)
  refine zy e7 ?_;refine zk e7 ?_;exact hk7 _ _ ⟨_,FL,h⟩
 rintro fr I ⟨u19,hl,h⟩;unfold vj at h;refine Lfr hl ?_
 refine zp ?_;refine z2 ?_;refine zj h (fun h=>?_) fun h=>?_
 .refine z3 ?_;refine zm (wV (vs:=[]) (cs:= #[.int .i64 0,.string ByteArray.empty,Sl.v (⟨none,0,0⟩:Sl)]) rfl underlying96 ut ah1 rfl rfl) ?_;refine zs ut h fun I h=>?_;refine zp ?_;refine z2 ?_;refine AW.ret ?_;refine qQ (qi ?_);obtain⟨u21,u22,u23,hc0,h⟩:=h
  exact bRM results36 (wS (jR rfl underlying96 rfl ut hc0) (wS (aaW rfl) jQ)) ⟨_,_,_,_,rfl,h⟩
 refine z3 ?_;refine zf underlying57 ty3 ?_;refine zL underlying3 h fun u24 h=>?_;iterate 2 refine zp ?_
 refine z2 ?_;refine zi h (fun h=>?_) fun h=>?_
 .refine z3 ?_;refine zp ?_;refine zm (wV (vs:=[(0,.int .i64 2),(2,Sl.v u15)]) (cs:= #[.int .i64 2,.string ByteArray.empty,Sl.v u15]) rfl underlying96 ut ah1 rfl rfl) ?_;refine zs ut h fun I h=>?_;refine zp ?_;refine z2 ?_;refine AW.ret ?_;refine qQ (qi ?_);obtain⟨u25,u26,u27,hc0,h⟩:=h
  exact bRM results36 (wS (jR rfl underlying96 rfl ut hc0) (wS (aaW rfl) jQ)) ⟨_,_,_,_,rfl,h⟩
 refine z3 ?_;refine zf underlying57 ty9 ?_;refine zL underlying9 h fun u28 h=>?_;refine zc func99 h ?_;rintro v I ⟨u29,rfl,h⟩;iterate 2 refine zp ?_
 refine z2 ?_;refine AW.iff rfl (qt Iff.rfl) h (fun h=>?_) (fun h=>?_)
 .refine z3 ?_;refine zm (wV (vs:=[]) (cs:= #[.int .i64 0,.string ByteArray.empty,Sl.v (⟨none,0,0⟩:Sl)]) rfl underlying96 ut ah1 rfl rfl) ?_;refine zs ut h fun I h=>?_;refine zp ?_;refine z2 ?_;refine AW.ret ?_;refine qQ (qi ?_);obtain⟨u30,u31,u32,hc0,h⟩:=h
  exact bRM results36 (wS (jR rfl underlying96 rfl ut hc0) (wS (aaW rfl) jQ)) ⟨_,_,_,_,rfl,h⟩
 refine AW.skip ?_;refine wq (qc (z3 ?_));refine zf underlying57 ty9 ?_;refine zL underlying9 h fun u33 h=>?_;refine zp ?_;refine zm (wV (vs:=[(0,.int .i64 1),(1,.string u33),(2,Sl.v u15)]) (cs:= #[.int .i64 1,.string u33,Sl.v u15]) rfl underlying96 ut ah1 rfl rfl) ?_;refine zs ut h fun I h=>?_;refine zp ?_;refine z2 ?_;refine AW.ret ?_;obtain⟨u34,u35,u36,hc0,h⟩:=h
 exact bRM results36 (wS (jR rfl underlying96 rfl ut hc0) (wS (aaW rfl) jQ)) ⟨_,_,_,_,rfl,h⟩
def acm(B:World)(ro:AH)(a0:Bool)(I:AH)(Q:Int->AH->Prop):=
 if a0=true then
 Q 1 I
 else
 Q 0 I
theorem agL{a0:Bool}{Q:Int->AH->Prop}(h:Sep ro I->acm B ro a0 I Q):aeb B ro a0 I Q:=by
 refine zb h func91 ntmps91 fun h=>?_;unfold acm at h;refine z3 ?_;refine zp ?_;refine z2 (AW.seq (z3 ?_))
 refine zp ?_;refine z2 ?_;refine zj h (fun h=>?_) fun h=>?_
 .refine z3 ?_;refine zp ?_;refine z2 ?_;refine AW.ret ?_;refine qi ?_;exact bR1 results91 rfl ⟨_,rfl,h⟩
 refine AW.skip ?_;refine qc (z3 ?_);refine zp ?_;refine z2 ?_;refine AW.ret ?_;exact bR1 results91 rfl ⟨_,rfl,h⟩
def yy(B:World)(ro:AH)(Q:Sl->AH->Prop)(u0:Sl)(I:AH):=
 Q u0 I
def xX(B:World)(ro:AH)(a0:Option Addr)(u0:Int)(Q:Sl->AH->Prop):(Sl×Int)->AH->((Sl×Int)->AH->Prop)->Prop:=fun⟨u1,u2⟩ I Y4=>
 if u2<(if 8<u0 then 8 else u0)then
 qL B ro a0 I fun u3 I=>
 nw ro I (.cells #[.int .i64 u3] 3) fun u4 I=>
 awp prog ro (Builtin.append_ #[55,55] 55 #[Sl.v u1,Sl.v (⟨some ⟨u4,0,none⟩,1,1⟩:Sl)]) (fun v I=> ∃(u5:Sl),v=Sl.v u5/\
  Y4 (u5,i64.wrap (u2+1)) I) I
 else
 yy B ro Q u1 I
def aag(B:World)(ro:AH)(a0:Option Addr)(I:AH)(Q:Sl->AH->Prop):=
 qL B ro a0 I fun u0 I=>
 lfpD (xX B ro a0 u0 Q) ((⟨none,0,0⟩:Sl),0) I
theorem aev{a0:Option Addr}{Q:Sl->AH->Prop}(h:Sep ro I->aag B ro a0 I Q):uP B ro a0 I Q:=by
 refine zb h func95 ntmps95 fun h=>?_;unfold aag at h;refine z3 ?_;refine zp ?_;refine z4 ?_;refine zp ?_;refine z2 ?_;refine AW.seqJ (fun fr I=> ∃(u0:Sl),qk [(3,Sl.v u0)] fr/\yy B ro Q u0 I) ?_ ?_
 .rintro fr I ⟨u0,hl,h⟩;refine AW.weaken ?_ hl (HLe.refl _)
  unfold yy at h;refine z3 ?_;iterate 2 refine zp ?_
  refine z2 ?_;refine AW.ret ?_;exact bR1 results95 rfl ⟨_,rfl,h⟩
 refine z3 ?_;refine zp ?_;refine zc func54 h ?_;rintro v I ⟨u1,rfl,h⟩;refine zm (aku rfl rfl) ?_;refine zp ?_;refine z2 (AW.block ?_)
 refine qn.loop (fr':=[(0,.pointer a0),(6,.int .i64 (if 8<u1 then 8 else u1)),(3,Sl.v (⟨none,0,0⟩:Sl)),(7,.int .i64 0)]) ?_ FL
 refine h (fun⟨u2,u3⟩ I=>qn _ _ _ _ _ _ [(0,.pointer a0),(6,.int .i64 (if 8<u1 then 8 else u1)),(3,Sl.v u2),(7,.int .i64 u3)] I) ?_
 rintro⟨u2,u3⟩ I Y4 hY4 h
 show AW _ _ _ _ _ _ _ _
 unfold xX at h;dsimp only at h;refine z3 ?_;refine zp ?_;refine z2 (AW.seq ?_)
 refine zi h (fun h=>?_) fun h=>?_
 rotate_left
 .refine AW.exit ?_;refine qR (qR ?_);refine wK ?_
  refine qc ?_;exact⟨_,FL,h⟩
 refine AW.skip ?_;refine qc (AW.seq (AW.block (AW.reg ?_)));iterate 2 refine zp ?_
 refine zc func54 h ?_;rintro v I ⟨u4,rfl,h⟩;refine zA (wI (vs:=[(0,.int .i64 u4)]) (cs:= #[.int .i64 u4]) rfl underlying55 ty3 (by decide) rfl rfl) h fun u5 h=>?_;refine zl (jz (s:=Builtin.append_ #[55,55] 55 #[Sl.v u2,Sl.v (⟨some ⟨u5,0,none⟩,1,1⟩:Sl)]) rfl rfl (fun _=>rfl) (qv _ h ?_))
 rintro v I ⟨u6,rfl,h⟩;refine zp ?_;refine pT (wq (qc (AW.reg ?_)));iterate 2 refine zp ?_
 refine z2 ?_;refine qn.head (fr':=[(0,.pointer a0),(6,.int .i64 (if 8<u1 then 8 else u1)),(3,Sl.v u6),(7,.int .i64 (i64.wrap (u3+1)))]) ?_ FL
 exact hY4 _ _ h
end G
namespace SL
open Go
variable{ro I:AH}{tag:Nat->Nat}
theorem ajo{b i:Nat}{v:Value}{vs:List Value}{K:AH->Prop}(h:stN ((⟨b,0,none⟩:Addr).add (i*1)) (fun I=>stN ⟨b,0,none⟩ K vs (i+1) I) [v] 0 I):stN ⟨b,0,none⟩ K (v::vs) i I:=by
 have e:((⟨b,0,none⟩:Addr).add (i*1)).add 0=(⟨b,0,none⟩:Addr).add i:=by rw[wN,wN,wN,Nat.mul_one,Nat.add_zero]
 unfold stN at h⊢
 rw[e]at h
 exact h
theorem Row.stPre{r:Nat}{e:TypeId}{b n c:Nat}{K:AH->Prop}:∀ (vs:List Value) (i:Nat) (l:List Value) (I:AH),Row tag I r e ⟨some ⟨b,0,none⟩,n,c⟩ l->Sep ro I->i+vs.length<=l.length->(∀v∈vs,qg v=true)->
  (∀I',qf [r] ro tag I tag I'->Row tag I' r e ⟨some ⟨b,0,none⟩,n,c⟩ (l.take i++vs++l.drop (i+vs.length))->K I')->stN ⟨b,0,none⟩ K vs i I:=by
 intro vs
 induction vs with
 | nil=>
  intro i l I h hs _ _ hK
  refine hK I (qf.refl hs) ?_
  simpa using h
 | cons v vs ih=>
  intro i l I h hs hl hv hK
  simp only[List.length_cons]at hl
  refine ajo ?_
  refine h.st hs rfl (by omega) (hv v (by simp)) fun I1 st1 h1=>?_
  refine ih (i+1) (l.set i v) I1 h1 st1.sep (by simp;omega) (fun w hw=>hv w (by simp[hw])) fun I2 st2 h2=>?_
  refine hK I2 (st1.trans st2) ?_
  have e1:(l.set i v).take (i+1)=l.take i++[v]:=by
   rw[List.take_add_one,List.take_set_of_le (Nat.le_refl _),List.getElem?_set_self (by omega)];rfl
  have e2:(l.set i v).drop (i+1+vs.length)=l.drop (i+(v::vs).length):=by
   rw[List.drop_set_of_lt (by omega)];congr 1;simp;omega
  rw[e1,e2]at h2
  simpa using h2
theorem akh{b o:Nat}{K:AH->Prop}:∀ (vs:List Value) (i:Nat) {I:AH},stN ⟨b,0,none⟩ K vs (o+i) I->stN ((⟨b,0,none⟩:Addr).add o) K vs i I:=by
 intro vs
 induction vs with
 | nil=>intro i I h;exact h
 | cons v vs ih=>
  intro i I h
  unfold stN at h⊢
  rw[aer]
  exact stN_mono' h fun I h=>by
   have:=ih (i+1) (I:=I) (by rw[show o+(i+1)=o+i+1 by omega];exact h)
   exact this
where
 stN_mono' {a:Addr} {v:Value} {K K':AH->Prop} {I:AH} (h:qg v=true/\a.spot=none/\∃ c e fz,I a.block=some (.cells c e fz)/\a.off<c.size/\¬ (fz.1<=a.off/\a.off<fz.2)/\K (upd I a.block (.cells (c.setIfInBounds a.off v) e fz)))
   (hk:∀ I,K I->K' I):qg v=true/\a.spot=none/\∃ c e fz,I a.block=some (.cells c e fz)/\a.off<c.size/\¬ (fz.1<=a.off/\a.off<fz.2)/\K' (upd I a.block (.cells (c.setIfInBounds a.off v) e fz)):=by
  obtain⟨h1,h2,c,e,fz,h3,h4,h5,h6⟩:=h
  exact⟨h1,h2,c,e,fz,h3,h4,h5,hk _ h6⟩
theorem Row.stAt{r:Nat}{e:TypeId}{b n c:Nat}{K:AH->Prop}(vs:List Value)(i:Nat){l:List Value}(h:Row tag I r e ⟨some ⟨b,0,none⟩,n,c⟩ l)(hs:Sep ro I)(hl:i+vs.length<=l.length)(hv:∀ v∈vs,qg v=true)
  (hK:∀ I',qf [r] ro tag I tag I'->Row tag I' r e ⟨some ⟨b,0,none⟩,n,c⟩ (l.take i++vs++l.drop (i+vs.length))->K I'):stN ((⟨b,0,none⟩:Addr).add i) K vs 0 I:=
 akh vs 0 (h.stPre vs i l I hs hl hv hK)
end SL
namespace Wi
open Go SL G Zt
variable{B:World}{ro I I':AH}{tag tag':Nat->Nat}
end Wi
namespace SL
open Go
variable{ro I:AH}{tag:Nat->Nat}
end SL
namespace Zt
open Go SL G Pa Wi
variable{B:World}{ro I I':AH}{tag tag':Nat->Nat}
theorem alw{n m:Nat}:(if(m:Int)<(n:Int)then(m:Int)else(n:Int))=((min n m:Nat):Int):=by
 split<;>omega
end Zt
namespace SL
open Go
variable{P:Program}{B:World}{ro I I':AH}{tag tag':Nat->Nat}
abbrev T7:Nat->Nat:=fun _=>7
theorem qf.hle{R:List Nat}{tag1:Nat->Nat}{I1:AH}(st:qf R ro T7 I tag1 I1)(h:7∉R):HLe I I1:=fun b o hb=>(st.keep b o hb h).2
theorem qd.hle{C:List Nat}{tag1:Nat->Nat}{I1:AH}(st:qd C ro T7 I tag1 I1)(h:7∉C):HLe I I1:=by
 obtain⟨R,h1,h2⟩:=st
 exact h2.hle fun m=>h (h1 7 m)
theorem akS{b:Nat}{o:Obj}(h:HLe I I')(hr:rd ro I b=some o):rd ro I' b=some o:=by
 unfold rd at hr⊢
 cases hb:ro b with
 | some x=>rw[hb]at hr;exact hr
 | none=>rw[hb]at hr;exact h b o hr
theorem afI{a:Addr}{v:Value}(h:HLe I I')(hr:qa ro I a=some v):qa ro I' a=some v:=by
 unfold qa at hr⊢
 cases hb:rd ro I a.block with
 | none=>rw[hb]at hr;simp[wM]at hr
 | some o=>rw[akS h hb,<-hb];exact hr
theorem qy.hle{s:Sl}{l:List Value}(h:qy ro I s l)(k:HLe I I'):qy ro I' s l:=⟨h.1,h.2.1,fun p hp i v hv=>afI k (h.2.2 p hp i v hv)⟩
theorem HLe.trans'{a b c:AH}(h:HLe a b)(k:HLe b c):HLe a c:=fun x o hx=>k x o (h x o hx)
def vV(I:AH)(tag tag1:Nat->Nat):Nat->Nat:=fun c=>if(I c).isSome then tag c else tag1 c
theorem qd.mix{C:List Nat}{tag1:Nat->Nat}{I1:AH}(st:qd C ro T7 I tag1 I1)(h:7∉C)(tag:Nat->Nat):∀ R,qf R ro tag I (vV I tag tag1) I1:=fun R=>by
 have hl:=st.hle h
 exact⟨fun b o hb _=>⟨by simp[vV,hb],hl b o hb⟩,fun b o hb=>⟨by simp[vV,hb],o,hl b o hb⟩,st.sep⟩
theorem qd.old7{C:List Nat}{tag1:Nat->Nat}{I1:AH}(st:qd C ro T7 I tag1 I1){b:Nat}{o:Obj}(hb:I b=some o):tag1 b=7:=by
 obtain⟨R,h1,h2⟩:=st
 exact(h2.old b o hb).1
theorem Row.mix{C:List Nat}{tag1:Nat->Nat}{I1:AH}{r:Nat}{e:TypeId}{s:Sl}{l:List Value}(h:Row tag1 I1 r e s l)(st:qd C ro T7 I tag1 I1)(hr:r≠7)(tag:Nat->Nat):Row (vV I tag tag1) I1 r e s l:=by
 rcases h with h | ⟨b,cs,ha,ht,hb,hx⟩
 .exact .inl h
 .refine .inr ⟨b,cs,ha,?_,hb,hx⟩
  unfold vV
  cases e:I b with
  | none=>simpa using ht
  | some o=>exact absurd (by rw[<-ht];exact st.old7 e) hr
theorem wj.mix{C:List Nat}{tag1:Nat->Nat}{I1:AH}{r w:Nat}{e:TypeId}{s:Sl}{l:List (List Value)}(h:wj tag1 I1 r e w s l)(st:qd C ro T7 I tag1 I1)(hr:r≠7)(tag:Nat->Nat):wj (vV I tag tag1) I1 r e w s l:=by
 rcases h with h | ⟨b,cs,ha,ht,hb,hx⟩
 .exact .inl h
 .refine .inr ⟨b,cs,ha,?_,hb,hx⟩
  unfold vV
  cases e:I b with
  | none=>simpa using ht
  | some o=>exact absurd (by rw[<-ht];exact st.old7 e) hr
theorem aiN{tag1:Nat->Nat}{I1:AH}{r:Nat}(st:∀ R,qf R ro T7 I tag1 I1)(hr:r≠7)(tag:Nat->Nat)(q:Nat):
  ∃tag',(∀R,qf R ro tag I tag' I1)/\∀ e s l,Row tag1 I1 r e s l->Row tag' I1 q e s l:=by
 refine⟨fun c=>if(I c).isSome then tag c else q,fun R=>⟨fun b o hb _=>⟨by simp[hb],((st []).keep b o hb (by simp)).2⟩,fun b o hb=>⟨by simp[hb],o,((st []).keep b o hb (by simp)).2⟩,(st []).sep⟩,fun e s l h=>?_⟩
 rcases h with h | ⟨b,cs,ha,ht,hb,hx'⟩
 .exact .inl h
 .refine .inr ⟨b,cs,ha,?_,hb,hx'⟩
  cases e:I b with
  | none=>simp[e]
  | some o=>
   have:=((st []).old b o e).1
   rw[ht]at this;exact absurd this hr
theorem abJ{p:Addr}{l:List Value}(h:qj ro I p 0 l){i:Nat}{v:Value}(hv:l[i]?=some v):qa ro I (p.add i)=some v:=by
 have gen:∀ (l:List Value) (k i:Nat) (v:Value),qj ro I p k l->l[i]?=some v->qa ro I (p.add (k+i))=some v:=by
  intro l
  induction l with
  | nil=>intro k i v _ hv;cases hv
  | cons x l ih=>
   intro k i v h hv
   cases i with
   | zero=>cases hv;exact h.1
   | succ i=>have:=ih (k+1) i v h.2 (by simpa using hv);rw[<-this];congr 2;omega
 have:=gen l 0 i v h hv
 rwa [Nat.zero_add]at this
theorem ajp{K:AH->AH->Prop}(h:K I (fun _=>none)):pn I K:=by
 refine⟨I,fun _=>none,fun c o hc=>rfl,?_,h⟩
 funext c;unfold join;cases I c<;>rfl
theorem afJ{τ:AH}{a:Addr}{v:Value}(hs:Sep ro I)(h:qa ro I a=some v):qa (join ro I) τ a=some v:=by
 unfold qa rd at h⊢
 cases hr:ro a.block with
 | some o=>rw[hr]at h;unfold join;rw[hr];exact h
 | none=>
  rw[hr]at h
  cases hb:I a.block with
  | none=>simp only at h;rw[hb]at h;simp[wM]at h
  | some o=>unfold join;simp only[hr,hb]at h ⊢;exact h
theorem qy.all{τ:AH}{s:Sl}{l:List Value}(h:qy ro I s l)(hs:Sep ro I):qy (join ro I) τ s l:=⟨h.1,h.2.1,fun p hp i v hv=>afJ hs (h.2.2 p hp i v hv)⟩
theorem uD{tag1:Nat->Nat}{τ:AH}(hs:Sep ro I)(hd:qz I τ)(ht:Sep (join ro I) τ)(tag:Nat->Nat):∀ R,qf R ro tag I (vV I tag tag1) (join I τ):=fun R=>
 ⟨fun b o hb _=>⟨by simp[vV,hb],zD hb⟩,fun b o hb=>⟨by simp[vV,hb],o,zD hb⟩,fun c o hc=>by
  rcases pi hc with h | ⟨h1,h2⟩
  .exact hs c o h
  .exact(jq (ht c o h2)).1⟩
theorem Row.allB{tag1:Nat->Nat}{τ:AH}{r:Nat}{e:TypeId}{s:Sl}{l:List Value}(h:Row tag1 τ r e s l)(hd:qz I τ)(tag:Nat->Nat):Row (vV I tag tag1) (join I τ) r e s l:=by
 rcases h with h | ⟨b,cs,ha,ht,hb,hx⟩
 .exact .inl h
 .have hn:I b=Option.none:=by
   cases e:I b with
   | none=>rfl
   | some o=>have:=hd b o e;rw[hb]at this;cases this
  exact .inr ⟨b,cs,ha,by simp[vV,hn,ht],by unfold join;rw[hn];exact hb,hx⟩
end SL
namespace G
open Go SL
variable{B:World}{ro I:AH}
def aah(B:World)(ro:AH)(Q:Bool->AH->Prop)(I:AH):=
 Q false I
def pF(B:World)(ro:AH)(a0:Sl)(Q:Bool->AH->Prop):Int->AH->(Int->AH->Prop)->Prop:=fun u0 I Y2=>
 if u0<(a0.len:Int)then
 ∃p1,a0.a=some p1/\(0:Int)<=u0/\u0<(a0.len:Int)/\
 ∃u2,qa ro I (p1.add (Int.toNat u0*1))=some (.int .i64 u2)/\
 aec B ro u2 I fun u3 I=>
 if u3=true then
  Q true I
 else
 Y2 (i64.wrap (u0+1)) I
 else
 aah B ro Q I
def acn(B:World)(ro:AH)(a0:Sl)(I:AH)(Q:Bool->AH->Prop):=
 lfpD (pF B ro a0 Q) (0) I
theorem agM{a0:Sl}{Q:Bool->AH->Prop}(h:Sep ro I->acn B ro a0 I Q):aaI B ro a0 I Q:=by
 refine zb h func48 ntmps48 fun h=>?_;unfold acn at h;refine z3 ?_;refine zp ?_;refine z2 ?_;refine AW.seqJ (fun fr I=>qk [] fr/\aah B ro Q I) ?_ ?_
 .rintro fr I ⟨hl,h⟩;refine AW.weaken ?_ hl (HLe.refl _)
  unfold aah at h;refine z3 ?_;refine zp ?_;refine z2 ?_;refine AW.ret ?_;exact bR1 results48 rfl ⟨_,rfl,h⟩
 refine z3 ?_;refine zp ?_;refine z2 (AW.block ?_)
 refine qn.loop (fr':=[(0,Sl.v a0),(3,.int .i64 0)]) ?_ FL
 refine h (fun u0 I=>qn _ _ _ _ _ _ [(0,Sl.v a0),(3,.int .i64 u0)] I) ?_
 rintro u0 I Y2 hY2 h
 show AW _ _ _ _ _ _ _ _
 unfold pF at h;refine AW.seq (z3 ?_);iterate 2 refine zp ?_
 refine zm (qJ rfl rfl underlying55 rfl rfl) ?_;refine zp ?_;refine z2 ?_;refine zi h (fun h=>?_) fun h=>?_
 rotate_left
 .refine AW.exit ?_;refine qR (qR ?_);refine wK ?_
  refine qc ?_;exact⟨FL,h⟩
 refine AW.skip ?_;refine qc (AW.seq (AW.block (z3 ?_)));iterate 2 refine zp ?_
 obtain⟨p1,ha,h0,h1,h⟩:=h
 refine zm (vL rfl underlying55 ty3 (ixL rfl ha) rfl h0 h1) ?_;refine zL underlying3 h fun u2 h=>?_;refine zc func118 h ?_;rintro v I ⟨u3,rfl,h⟩;refine z2 ?_;refine zj h (fun h=>?_) fun h=>?_
 .refine z3 ?_;refine zp ?_;refine z2 ?_;refine AW.ret ?_;refine qQ (qi (qi (qQ (qi ?_))));exact bR1 results48 rfl ⟨_,rfl,h⟩
 refine AW.skip ?_;refine wq (qc (AW.reg ?_));iterate 3 refine zp ?_
 refine z2 ?_;refine qn.head (fr':=[(0,Sl.v a0),(3,.int .i64 (i64.wrap (u0+1)))]) ?_ FL
 exact hY2 _ _ h
def ur(B:World)(ro:AH)(Q:Sl->AH->Prop)(u0:Sl)(I:AH):=
 Q u0 I
def yM(B:World)(ro:AH)(a0:Sl)(Q:Sl->AH->Prop):(Sl×Int)->AH->((Sl×Int)->AH->Prop)->Prop:=fun⟨u0,u1⟩ I Y4=>
 if u1<(a0.len:Int)then
 ∃p2,a0.a=some p2/\(0:Int)<=u1/\u1<(a0.len:Int)/\
 ∃u3,qa ro I (p2.add (Int.toNat u1*1))=some (.int .i64 u3)/\
 vX B ro u3 I fun u4 I=>
 awp prog ro (Builtin.append_ #[24,24] 24 #[Sl.v u0,Sl.v u4]) (fun v I=> ∃(u5:Sl),v=Sl.v u5/\
  Y4 (u5,i64.wrap (u1+1)) I) I
 else
 ur B ro Q u0 I
def abK(B:World)(ro:AH)(a0:Sl)(I:AH)(Q:Sl->AH->Prop):=
 nw ro I (.cells #[] 5) fun u0 I=>
 lfpD (yM B ro a0 Q) ((⟨some ⟨u0,0,none⟩,0,0⟩:Sl),0) I
theorem af2{a0:Sl}{Q:Sl->AH->Prop}(h:Sep ro I->abK B ro a0 I Q):pt B ro a0 I Q:=by
 refine zb h func49 ntmps49 fun h=>?_;unfold abK at h;refine z3 ?_;refine zp ?_;refine z4 ?_;refine zA (wI (vs:=[]) (cs:= #[]) rfl underlying24 ty5 (by decide) rfl rfl) h fun u0 h=>?_;refine zp ?_;refine z2 ?_;refine AW.seqJ (fun fr I=> ∃(u1:Sl),qk [(3,Sl.v u1)] fr/\ur B ro Q u1 I) ?_ ?_
 .rintro fr I ⟨u1,hl,h⟩;refine AW.weaken ?_ hl (HLe.refl _)
  unfold ur at h;refine z3 ?_;iterate 2 refine zp ?_
  refine z2 ?_;refine AW.ret ?_;exact bR1 results49 rfl ⟨_,rfl,h⟩
 refine z3 ?_;refine zp ?_;refine z2 (AW.block ?_)
 refine qn.loop (fr':=[(0,Sl.v a0),(3,Sl.v (⟨some ⟨u0,0,none⟩,0,0⟩:Sl)),(4,.int .i64 0)]) ?_ FL
 refine h (fun⟨u2,u3⟩ I=>qn _ _ _ _ _ _ [(0,Sl.v a0),(3,Sl.v u2),(4,.int .i64 u3)] I) ?_
 rintro⟨u2,u3⟩ I Y4 hY4 h
 show AW _ _ _ _ _ _ _ _
 unfold yM at h;dsimp only at h;refine AW.seq (z3 ?_);iterate 2 refine zp ?_
 refine zm (qJ rfl rfl underlying55 rfl rfl) ?_;refine zp ?_;refine z2 ?_;refine zi h (fun h=>?_) fun h=>?_
 rotate_left
 .refine AW.exit ?_;refine qR (qR ?_);refine wK ?_
  refine qc ?_;exact⟨_,FL,h⟩
 refine AW.skip ?_;refine qc (AW.seq (AW.block (AW.reg ?_)));iterate 3 refine zp ?_
 obtain⟨p4,ha,h0,h1,h⟩:=h
 refine zm (vL rfl underlying55 ty3 (ixL rfl ha) rfl h0 h1) ?_;refine zL underlying3 h fun u5 h=>?_;refine zc func52 h ?_;rintro v I ⟨u6,rfl,h⟩;refine zl (jz (s:=Builtin.append_ #[24,24] 24 #[Sl.v u2,Sl.v u6]) rfl rfl (fun _=>rfl) (qv _ h ?_))
 rintro v I ⟨u7,rfl,h⟩;refine zp ?_;refine pT (wq (qc (AW.reg ?_)));iterate 3 refine zp ?_
 refine z2 ?_;refine qn.head (fr':=[(0,Sl.v a0),(3,Sl.v u7),(4,.int .i64 (i64.wrap (u3+1)))]) ?_ FL
 exact hY4 _ _ h
end G
namespace SL
open Go
variable{ro I I' I1:AH}{tag tag' tag1:Nat->Nat}
theorem ac6{x:Nat}(hx:x≠0)(st:qf [x] ro (fun _=>0) I tag1 I1)(tag:Nat->Nat)(y:Nat):
  ∃tag',(∀R,qf R ro tag I tag' I1)/\∀ e s l,Row tag1 I1 x e s l->Row tag' I1 y e s l:=by
 refine⟨fun c=>if(I c).isSome then tag c else y,fun R=>⟨fun b o hb _=>⟨by simp[hb],?_⟩,fun b o hb=>⟨by simp[hb],o,?_⟩,st.sep⟩,fun e s l h=>?_⟩
 .exact(st.keep b o hb (by simp;omega)).2
 .exact(st.keep b o hb (by simp;omega)).2
 .rcases h with h | ⟨b,cs,ha,ht,hb,hx'⟩
  .exact .inl h
  .refine .inr ⟨b,cs,ha,?_,hb,hx'⟩
   cases e:I b with
   | none=>simp[e]
   | some o=>
    have:=(st.old b o e).1
    rw[ht]at this;exact absurd this hx
theorem qy.fresh{x:Nat}{s:Sl}{l:List Value}(hx:x≠0)(h:qy ro I s l)(st:qf [x] ro (fun _=>0) I tag1 I1):qy ro I1 s l:=by
 obtain⟨tg,k,_⟩:=ac6 hx st (fun _=>0) 0
 exact h.step (k [])
end SL
namespace Zt
open Go SL G Pa Wi
variable{B:World}{ro I I':AH}{tag tag':Nat->Nat}
theorem aaA{x:Int}{Q:Sl->AH->Prop}(h0:0<=x)(hx:x<=4611686018427387903)(hQ:∀ s tag' I',(∀R,qf R ro tag I tag' I')->Row tag' I' 6 5 s ((qC x.toNat).map vU)->Q s I'):vX B ro x I Q:=by
 refine agz fun hs=>?_
 unfold acg
 refine ql (tag:=fun _=>0) 1 hs fun b tag1 I1 st1 r1=>?_
 have fin:∀ s tag2 I2,qf [1] ro (fun _=>0) I tag2 I2->Row tag2 I2 1 5 s ((qC x.toNat).map vU)->Q s I2:=fun s tag2 I2 st2 r2=>by
  obtain⟨tg,k1,k2⟩:=ac6 (by decide) st2 tag 6
  exact hQ s tg I2 k1 (k2 _ _ _ r2)
 suffices∀(m:Nat) (n:Nat) (acc:Str) (s:Sl) tag2 I2,n<128 ^ (m+1)->n<=4611686018427387903->acc.length+m<=20->acc++qC n=qC x.toNat->qf [1] ro (fun _=>0) I tag2 I2->Row tag2 I2 1 5 s (acc.map vU)->lfpD (pz B ro Q) ((n:Int),s) I2 by
  have:=this 10 x.toNat [] _ tag1 I1 (by omega) (by omega) (by simp) rfl (st1 _) r1
  rwa [Int.toNat_of_nonneg h0]at this
 intro m
 induction m with
 | zero=>
  intro n acc s tag2 I2 hn hn2 hl he st2 r2
  refine lfpD.intro ?_
  unfold pz
  simp only
  rw[if_neg (by omega)]
  unfold py
  refine ql (tag:=tag2) 0 st2.sep fun c tag3 I3 st3 r3=>?_
  refine ud (r2.keep (st3 [])) (st3 []).sep u30 ty5 rfl rfl (Row.cell1 r3 (st3 []).sep) rfl (by rw[List.length_map];omega) (by decide) fun s' tag4 I4 st4 r4=>?_
  refine⟨s',rfl,fin s' tag4 I4 (st2.trans ((st3 _).trans st4)) ?_⟩
  rw[<-he]
  unfold qC
  rw[if_pos (by omega),List.map_append]
  have:IntKind.u8.wrap (n:Int)=((UInt8.ofNat n).toNat:Int):=by
   rw[uq n (by omega)]
   simp[IntKind.wrap,IntKind.signed,IntKind.bits];omega
  rw[this]at r4
  exact r4
 | succ m ih=>
  intro n acc s tag2 I2 hn hn2 hl he st2 r2
  refine lfpD.intro ?_
  unfold pz
  simp only
  by_cases c:128<=n
  .rw[if_pos (by omega)]
   refine ql (tag:=tag2) 0 st2.sep fun c' tag3 I3 st3 r3=>?_
   refine ud (r2.keep (st3 [])) (st3 []).sep u30 ty5 rfl rfl (Row.cell1 r3 (st3 []).sep) rfl (by rw[List.length_map];omega) (by decide) fun s' tag4 I4 st4 r4=>?_
   refine⟨s',rfl,?_⟩
   have e1:i64.wrap (Int.tdiv (n:Int) 128)=((n / 128:Nat):Int):=by
    rw[Int.tdiv_eq_ediv_of_nonneg (by omega),SL.qW (by omega) (by omega)];omega
   rw[e1]
   have e2:IntKind.u8.wrap (i64.wrap (128+(Int.tmod (n:Int) 128)))=((UInt8.ofNat (n%128+128)).toNat:Int):=by
    rw[uq _ (by omega),Int.tmod_eq_emod_of_nonneg (by omega),SL.qW (by omega) (by omega)]
    simp[IntKind.wrap,IntKind.signed,IntKind.bits];omega
   rw[e2]at r4
   refine ih (n / 128) (acc++[UInt8.ofNat (n%128+128)]) s' tag4 I4 ?_ (by omega) (by simp;omega) ?_ (st2.trans ((st3 _).trans st4)) (by rw[List.map_append];exact r4)
   .rw[Nat.pow_succ]at hn
    exact Nat.div_lt_of_lt_mul (by omega)
   .rw[<-he]
    conv=>rhs;unfold qC
    rw[if_neg (by omega),List.append_assoc];rfl
  .rw[if_neg (by omega)]
   unfold py
   refine ql (tag:=tag2) 0 st2.sep fun c tag3 I3 st3 r3=>?_
   refine ud (r2.keep (st3 [])) (st3 []).sep u30 ty5 rfl rfl (Row.cell1 r3 (st3 []).sep) rfl (by rw[List.length_map];omega) (by decide) fun s' tag4 I4 st4 r4=>?_
   refine⟨s',rfl,fin s' tag4 I4 (st2.trans ((st3 _).trans st4)) ?_⟩
   rw[<-he]
   unfold qC
   rw[if_pos (by omega),List.map_append]
   have:IntKind.u8.wrap (n:Int)=((UInt8.ofNat n).toNat:Int):=by
    rw[uq n (by omega)]
    simp[IntKind.wrap,IntKind.signed,IntKind.bits];omega
   rw[this]at r4
   exact r4
theorem aew{a0:Sl}{ss:List Sl}{ls:List Str}{Q:Sl->AH->Prop}(h:SL.qy ro I a0 (ss.map Sl.v))(hl:ls.length=ss.length)(hd:∀ (i:Nat) (s:Sl) (l:Str),ss[i]?=some s->ls[i]?=some l->SL.qy ro I s (l.map vU))(hn:ls.flatten.length<=140737488355328)(hs1:ss.length<=1000)
  (hQ:∀ s tag' I',(∀R,qf R ro tag I tag' I')->Row tag' I' 6 5 s (ls.flatten.map vU)->Q s I'):jV B ro a0 I Q:=by
 refine adc fun hs=>?_
 unfold uZ
 refine ql (tag:=fun _=>0) 1 hs fun b tag1 I1 st1 r1=>?_
 have ha:a0.len=ss.length:=by rw[h.1,List.length_map]
 suffices∀(m j:Nat) (s:Sl) tag2 I2,j+m=ss.length->qf [1] ro (fun _=>0) I tag2 I2->Row tag2 I2 1 5 s ((ls.take j).flatten.map vU)->lfpD (jo B ro a0 Q) (s,(j:Int)) I2 from
  this _ 0 _ tag1 I1 (Nat.zero_add _) (st1 _) r1
 intro m
 induction m with
 | zero=>
  intro j s tag2 I2 hj st2 r2
  refine lfpD.intro ?_
  unfold jo
  simp only
  rw[if_neg (by omega)]
  unfold yL
  rw[List.take_of_length_le (by omega)]at r2
  obtain⟨tg,k1,k2⟩:=ac6 (by decide) st2 tag 6
  exact hQ s tg I2 k1 (k2 _ _ _ r2)
 | succ m ih=>
  intro j s tag2 I2 hj st2 r2
  have hjs:j<ss.length:=by omega
  have hjl:j<ls.length:=by omega
  have h2:=h.fresh (by decide) st2
  have hd2:=(hd j _ _ (List.getElem?_eq_getElem hjs) (List.getElem?_eq_getElem hjl)).fresh (by decide) st2
  obtain⟨p,hp⟩:∃ p,a0.a=some p:=by
   cases e:a0.a with
   | none=>have:=h.2.1 e;simp at this;rw[this]at hjs;simp at hjs
   | some p=>exact⟨p,rfl⟩
  have hcell:=h2.2.2 p hp j (Sl.v ss[j]) (by rw[List.getElem?_map,List.getElem?_eq_getElem hjs];rfl)
  have etk:(ls.take (j+1)).flatten=(ls.take j).flatten++ls[j]:=by
   rw[List.take_add_one,List.getElem?_eq_getElem hjl,List.flatten_append];simp
  have hlen:(ls.take (j+1)).flatten.length<=ls.flatten.length:=by
   conv=>rhs;rw[<-List.take_append_drop (j+1) ls,List.flatten_append,List.length_append]
   omega
  rw[etk,List.length_append]at hlen
  refine lfpD.intro ?_
  unfold jo
  simp only
  rw[if_pos (by omega)]
  refine⟨p,hp,by omega,by omega,ss[j],by rw[Int.toNat_natCast,Nat.mul_one];exact hcell,?_⟩
  refine xJ r2 st2.sep hd2 u30 ty5 rfl (by simp[qg]) (by rw[List.length_map,List.length_map];omega) (by decide) fun s' tag3 I3 st3 r3=>?_
  refine⟨s',rfl,?_⟩
  rw[Pa.inc j (by omega)]
  refine ih (j+1) s' tag3 I3 (by omega) (st2.trans (st3 _ (.inr (by simp)))) ?_
  rw[etk,List.map_append];exact r3
theorem aaU{a0:Sl}{d:Str}{Q:Sl->AH->Prop}(h:SL.qy ro I a0 (d.map vU))(hl:d.length<=70368744177664)(hQ:∀ s tag' I',(∀R,qf R ro tag I tag' I')->Row tag' I' 6 5 s ((wT d).map vU)->Q s I'):xS B ro a0 I Q:=by
 refine afZ fun hs=>?_
 unfold abG
 have ha:a0.len=d.length:=by rw[h.1,List.length_map]
 refine aaA (tag:=tag) (by omega) (by omega) fun s1 tag1 I1 st1 r1=>?_
 rw[ha,Int.toNat_natCast]at r1
 refine ql (tag:=tag1) 0 (st1 []).sep fun b tag2 I2 st2 r2=>?_
 have hv:=(acW 8 d.length (by omega)).2
 refine aew (tag:=tag2) (ss:=[s1,a0]) (ls:=[qC d.length,d]) (r2.read (st2 []).sep) rfl (fun i s l hs' hl'=>?_) (by simp;omega) (by simp) fun s tag3 I3 st3 r3=>?_
 .rcases i with _ | _ | i
  .cases hs';cases hl';exact(r1.keep (st2 [])).read (st2 []).sep
  .cases hs';cases hl';exact(h.step (st1 [])).step (st2 [])
  .cases hs'
 .refine hQ s tag3 I3 (fun R=>(st1 R).trans ((st2 R).trans (st3 R))) ?_
  have:[qC d.length,d].flatten=wT d:=by unfold wT;simp
  rw[this]at r3;exact r3
theorem adT(I:AH)(b:Nat)(x y:Obj):upd (upd I b x) b y=upd I b y:=by
 funext c;unfold upd;split<;>rfl
theorem afp{l:Str}{K:Value->AH->Prop}(hs:SL.Sep ro I)(hK:∀ s tag' I',(∀R,qf R ro tag I tag' I')->SL.qy ro I' s (l.map vU)->K (Sl.v s) I'):awp prog ro (convert 9 24 (.string (S l))) K I:=by
 unfold convert
 simp only[qw]
 rw[qu u9,qu u30]
 simp only
 rw[qu akN]
 simp only
 unfold Conv.stringToBytes
 simp only[qw]
 refine abe rfl fun n=>?_
 have hsz:(S l).size=l.length:=by rw[<-zu,L_S]
 have hcut:(S l).size<=(Question.appendCap (S l).size 0 5).cut n:=by simp only[Question.cut];omega
 generalize (Question.appendCap (S l).size 0 5).cut n=N at hcut
 show∀b,ro b=none->I b=none->awp prog ro (Sem.bind (markStringish ⟨b,0,none⟩) fun _=>Sem.pure (Value.slice (some ⟨b,0,none⟩) (S l).size N)) K (upd I b _)
 intro b hro hb
 unfold markStringish
 show∃o,rd ro (upd I b _) b=some o/\_
 refine⟨_,by unfold rd;rw[hro];exact we _ _ _,?_⟩
 show(1:Nat)≠0/\∃ o,upd I b _ b=some o/\_
 refine⟨by decide,_,we _ _ _,?_⟩
 rw[adT]
 refine hK ⟨some ⟨b,0,none⟩,(S l).size,N⟩ (setTag tag b 6) _ (fun _=>qf.fresh hs hro hb) ⟨by simp[hsz],(fun h=>by cases h),fun p hp i v hv=>?_⟩
 cases hp
 have hi:i<l.length:=by
  rcases Nat.lt_or_ge i l.length with h | h
  .exact h
  .rw[List.getElem?_eq_none (by simpa using h)]at hv;cases hv
 rw[wN,Nat.zero_add]
 unfold qa rd
 rw[show ro (⟨b,i,none⟩:Addr).block=none from hro]
 simp only[we]
 rw[<-hv]
 show(Array.map (fun b=>Value.int IntKind.u8 (b.toNat:Int)) (S l).data++Array.replicate (N - (S l).size) (Value.int IntKind.u8 0))[i]?=_
 rw[Array.getElem?_append_left (by simp[S];omega)]
 simp[S,vU]
theorem ahp{a0:Sl}{l:List Int}{Q:Bool->AH->Prop}(h:SL.qy ro I a0 (l.map vI))(hl:l.length<4611686018427387904)(hQ:Q (!l.all qK) I):aaI B ro a0 I Q:=by
 refine agM fun _=>?_
 unfold acn
 have hln:a0.len=l.length:=by rw[h.1,List.length_map]
 suffices∀k j,j+k=l.length->(l.take j).all qK=true->lfpD (pF B ro a0 Q) (j:Int) I from this _ 0 (Nat.zero_add _) (by simp)
 intro k
 induction k with
 | zero=>
  intro j hj hall
  refine lfpD.intro ?_
  unfold pF
  rw[if_neg (by omega)]
  unfold aah
  rw[List.take_of_length_le (by omega)]at hall
  rw[hall]at hQ;exact hQ
 | succ k ih=>
  intro j hj hall
  have hjl:j<l.length:=by omega
  obtain⟨p,hp,hg⟩:=h.ptr (by simp;omega)
  refine lfpD.intro ?_
  unfold pF
  rw[if_pos (by omega)]
  refine⟨p,hp,by omega,by omega,l[j],?_,?_⟩
  .rw[Int.toNat_natCast,Nat.mul_one]
   exact hg j _ (by rw[List.getElem?_map,List.getElem?_eq_getElem hjl];rfl)
  refine agA fun _=>?_
  unfold ach
  have e:((decide (l[j]<0)) || (decide (4611686018427387903<l[j])))= !qK l[j]:=by
   unfold qK
   by_cases h1:l[j]<0<;>by_cases h2:4611686018427387903<l[j]<;>simp[h1,h2]<;>omega
  rw[e]
  dsimp only
  cases hr:qK l[j]with
  | false=>
   rw[if_pos (show(!false)=true from rfl)]
   have:l.all qK=false:=by
    rw[List.all_eq_false]
    exact⟨l[j],List.getElem_mem hjl,by simp[hr]⟩
   rw[this]at hQ;exact hQ
  | true=>
   rw[if_neg (by simp),Pa.inc j (by omega)]
   refine ih (j+1) (by omega) ?_
   rw[List.take_add_one,List.getElem?_eq_getElem hjl,List.all_append,hall]
   simp[hr]
def jw(l:List Int):Str:=l.flatMap fun n=>qC n.toNat
theorem afK{l:List Int}(h:l.all qK=true):(jw l).length<=9*l.length:=by
 induction l with
 | nil=>simp[jw]
 | cons n l ih=>
  rw[List.all_cons,Bool.and_eq_true]at h
  have:=ih h.2
  have:=vlen h.1
  unfold jw at*
  rw[List.flatMap_cons,List.length_append,List.length_cons];omega
where
 vlen {n:Int} (h:qK n=true):(qC n.toNat).length<=9:=(acW 8 n.toNat (by have:=(xK h).2;omega)).2
theorem aex{a0:Sl}{l:List Int}{Q:Sl->AH->Prop}(h:SL.qy ro I a0 (l.map vI))(hl:l.length<=1000)(hr:l.all qK=true)(hQ:∀ s tag' I',(∀R,qf R ro tag I tag' I')->Row tag' I' 6 5 s ((jw l).map vU)->Q s I'):pt B ro a0 I Q:=by
 refine af2 fun hs=>?_
 unfold abK
 have hln:a0.len=l.length:=by rw[h.1,List.length_map]
 refine ql (tag:=T7) 5 hs fun y tag1 I1 st1 r1=>?_
 suffices∀k j (out:Sl) tag2 I2,j+k=l.length->qd [5] ro T7 I tag2 I2->Row tag2 I2 5 5 out ((jw (l.take j)).map vU)->lfpD (yM B ro a0 Q) (out,(j:Int)) I2 from
  this _ 0 _ tag1 I1 (Nat.zero_add _) ((st1 []).s (by simp)) (by simpa [jw]using r1)
 intro k
 induction k with
 | zero=>
  intro j out tag2 I2 hj s2 r2
  refine lfpD.intro ?_
  unfold yM
  simp only
  rw[if_neg (by omega)]
  unfold ur
  rw[List.take_of_length_le (by omega)]at r2
  obtain⟨tg,k1,k2⟩:=aiN (r:=5) (fun R=>by
   have:=s2.mix (by decide) T7 R
   have e:vV I T7 tag2=tag2:=by
    funext c;unfold vV
    cases hc:I c with
    | none=>rfl
    | some o=>simp[s2.old7 hc]
   rw[e]at this;exact this) (by decide) tag 6
  exact hQ out tg I2 k1 (k2 _ _ _ r2)
 | succ k ih=>
  intro j out tag2 I2 hj s2 r2
  have hjl:j<l.length:=by omega
  have h2:=h.hle (s2.hle (by decide))
  obtain⟨p,hp,hg⟩:=h2.ptr (by simp;omega)
  have hrj:qK l[j]=true:=List.all_eq_true.1 hr _ (List.getElem_mem hjl)
  have hr2:=abh.1 hrj
  refine lfpD.intro ?_
  unfold yM
  simp only
  rw[if_pos (by omega)]
  refine⟨p,hp,by omega,by omega,l[j],?_,?_⟩
  .rw[Int.toNat_natCast,Nat.mul_one]
   exact hg j _ (by rw[List.getElem?_map,List.getElem?_eq_getElem hjl];rfl)
  refine aaA (tag:=tag2) hr2.1 hr2.2 fun s3 tag3 I3 st3 r3=>?_
  have hlen:(jw (l.take j)).length<=9*1000:=by
   have h1:=afK (l:=l.take j) (by rw[List.all_eq_true];exact fun n hn=>List.all_eq_true.1 hr n (List.mem_of_mem_take hn))
   rw[List.length_take]at h1;omega
  have hv:=afK.vlen hrj
  refine xJ (r2.keep (st3 [])) (st3 []).sep (r3.read (st3 []).sep) u30 ty5 rfl (by simp[qg]) (by rw[List.length_map,List.length_map];omega) (by decide) fun s4 tag4 I4 st4 r4=>?_
  refine⟨s4,rfl,?_⟩
  rw[Pa.inc j (by omega)]
  have e:jw (l.take (j+1))=jw (l.take j)++qC l[j].toNat:=by
   unfold jw
   rw[List.take_add_one,List.getElem?_eq_getElem hjl,List.flatMap_append];simp
  refine ih (j+1) s4 tag4 I4 (by omega) (s2.trans (((st3 []).s (by simp)).trans ((st4 _ (.inr (by simp:5∈[5]))).s (by simp)))) ?_
  rw[e,List.map_append];exact r4