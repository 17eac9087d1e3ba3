import Derived.Test.YtomdigihapdhnaaGreatDoorXJ
set_option linter.all false
set_option maxRecDepth 99999
set_option maxHeartbeats 0
open Go.IntKind(i64)
open Go.Proofs.Tryz
namespace Go.Proofs.YtomdigihapdhnaaGreatDoor
namespace SL
open Go
variable{I φ ψ:AH}{Q:Exit->Fr->AH->Prop}{fr:Fr}{i id:Nat}{cl:Nat->Nat}
section
variable{P:Program}{B:World}{ro:AH}{N:Nat}{ops:Array Oper}
theorem amh{K K':Fr->AH->Prop}(h:∀ fr I,jj B ro I->K fr I->K' fr I):∀ (l:List Nat) {fr:Fr} {I:AH},jj B ro I->qR P B ro N ops cl K l fr I->qR P B ro N ops cl K' l fr I
 | [],_,_,hl,hd=>h _ _ hl hd
 | x::l,_,_,hl,hd=>D1.mono hl (fun _ _ hl' hx=>amh h l hl' hx) hd
theorem ak7{K:Fr->AH->Prop}:∀ (l:List Nat),qR P B ro N ops cl K (l++[i])=qR P B ro N ops cl (D1 P B ro N ops cl i K) l
 | []=>rfl
 | x::l=>by
  funext fr I
  show D1 P B ro N ops cl x (qR P B ro N ops cl K (l++[i])) fr I=_
  rw[ak7 l];try rfl
theorem vm.more{o:Oper}{u:Value}(h:vm P ro adJ ops o fr u):vm P (join ro ψ) adJ ops o fr u:=by
 have key:∀ {α:Type} (s:Sem α) (a:α),qe P ro s adJ=some a->qe P (join ro ψ) s adJ=some a:=by
  intro α s
  induction s with
  | pure x=>intro a h;exact h
  | load m x k ih=>
   intro a h
   simp only[qe]at h⊢
   cases hc:qb ro adJ x with
   | none=>rw[hc]at h;cases h
   | some v=>
    rw[hc]at h
    have:qb (join ro ψ) adJ x=some v:=by
     unfold qb rd at hc⊢
     cases e:ro x.block with
     | none=>rw[e]at hc;simp[wM]at hc
     | some o=>rw[e]at hc;rw[wX e];exact hc
    rw[this];exact ih v a h
  | program k ih=>intro a h;exact ih _ a h
  | mark m k ih=>intro a h;exact ih a h
  | _=>intro a h;cases h
 unfold vm at h⊢
 split at h
 .exact fun O hρ=>key _ _ (h O hρ)
 .obtain⟨t,v,h1,h2,h3⟩:=h
  exact⟨t,v,h1,h2,h3.imp (fun⟨a,b⟩=>⟨a,fun O hρ=>key _ _ (b O hρ)⟩) id⟩
def ag8(P:Program)(B:World)(ro ψ:AH)(N:Nat)(ops:Array Oper)(cl:Nat->Nat)(Q:Fr->AH->Prop)(l2:List Nat):Fr->AH->Prop:=fun fr I=> ∃fr',zz fr' fr/\(qI ψ I->qR P B ro N ops cl Q l2 fr' (join ψ I))
theorem apw{w:World}(hp:∀ b o,ψ b=some o->φ b=none/\ro b=none)(h:Own B (join ro ψ) φ I w):qI ψ I/\jj B ro (join ψ I):=by
 obtain⟨g1,g2⟩:=h.unlend hp
 exact⟨g2,φ,w,g1⟩
theorem apx(hr:qI ψ ro)(h:jj B (join ro ψ) I):qI ψ I/\jj B ro (join ψ I):=by
 obtain⟨φ,w,h⟩:=h
 have h':Own B (join ro ψ) (fun _=>none) I w:=⟨h.os,h.tape,h.output,fun b o hs=>⟨(h.own b o hs).1,rfl,(h.own b o hs).2.2⟩,(fun _ _ e=>by cases e),h.ro⟩
 exact apw (fun b o hb=>⟨rfl,hr b o hb⟩) h'
theorem atl{Q:Fr->AH->Prop}(hK:abi Q)(hr:qI ψ ro)(h0:cl i=0){l1 pre post:List Nat}(hs1:∀ x∈l1,abj ops cl x i=true)(hs2:∀ x∈pre,abj ops cl x i=true)(hl:jj B (join ro ψ) I)
  (h:qR P B (join ro ψ) N ops cl (ag8 P B ro ψ N ops cl Q (pre++i::post)) l1 fr I):D1 P B (join ro ψ) N ops cl i (qR P B (join ro ψ) N ops cl (ag8 P B ro ψ N ops cl Q (pre++post)) l1) fr I:=by
 have hC:∀ l,abi (ag8 P B ro ψ N ops cl Q l):=fun l fr fr' I he ⟨fr2,h1,h2⟩=>⟨fr2,fun i=>(h1 i).trans (he i),h2⟩
 have h1:qR P B (join ro ψ) N ops cl (D1 P B (join ro ψ) N ops cl i (ag8 P B ro ψ N ops cl Q (pre++post))) l1 fr I:=by
  refine amh ?_ l1 hl h
  rintro fr I hl ⟨fr',he,hd⟩
  obtain⟨g1,g2⟩:=apx hr hl
  have hx:=adp (P:=P) (B:=B) (N:=N) hK post pre hs2 g2 (hd g1)
  show D1 P B (join ro ψ) N ops cl i _ fr I
  unfold qR D1 at hx
  unfold D1
  cases ho:ops[i]? with
  | none=>rw[ho]at hx;exact hx
  | some o=>
   rw[ho]at hx
   simp only[h0]at hx⊢
   obtain⟨k1,u,k2,k3⟩:=hx
   exact⟨k1,u,(k2.eq he).more,qu o.dst u fr',he.put _ _,fun _=>k3⟩
 rw[<-ak7]at h1
 have:=adp (P:=P) (B:=B) (N:=N) (hC (pre++post)) [] l1 hs1 hl h1
 rw[nN]at this
 exact this
theorem ami{anc:List (Nat×Nat)}(ha:agA ops anc=true)(hlt:∀ i,∀e∈wj ops i,e<i)(hK:abi (Q .normal))
  (hp:∀ b o,ψ b=some o->φ b=none/\ro b=none):
  ∀(m:Nat) (l1 l2:List Nat) (listed:Array Bool) {fr:Fr} {I:AH} {a:Act} {w:World},l1.length+l2.length=m->listed.size=ops.size->chk ops cl anc (l1++l2)=true->(∀j∈l2,cl j=0\/∀ i∈l1,i∈wj ops j\/(i,j)∈anc)->
   (∀i,i<ops.size->(listed.getD i true=false↔i∈l1++l2))->(∀i,i<ops.size->i∉l1++l2->∀ e∈wj ops i,e∉l1++l2)->
   qR P B (join ro ψ) N ops cl (ag8 P B ro ψ N ops cl (Q .normal) l2) l1 fr I->Own B (join ro ψ) φ I w->vZ N fr a->wpAny P .any ops (agw B ro N φ Q) m listed a w:=by
 have hC:∀ l,abi (ag8 P B ro ψ N ops cl (Q .normal) l):=fun l fr fr' I he ⟨fr2,h1,h2⟩=>⟨fr2,fun i=>(h1 i).trans (he i),h2⟩
 have nil:∀ (m:Nat) (l2:List Nat) (listed:Array Bool) {fr:Fr} {I:AH} {a:Act} {w:World},l2.length=m->listed.size=ops.size->chk ops cl anc l2=true->(∀i,i<ops.size->(listed.getD i true=false↔i∈l2))->(∀i,i<ops.size->i∉l2->∀ e∈wj ops i,e∉l2)->
   ag8 P B ro ψ N ops cl (Q .normal) l2 fr I->Own B (join ro ψ) φ I w->vZ N fr a->wpAny P .any ops (agw B ro N φ Q) m listed a w:=by
  intro m l2 listed fr I a w hn hsz hc hli hcl h ho hf
  obtain⟨fr',he,hd⟩:=h
  obtain⟨g1,g2⟩:=ho.unlend hp
  exact ab5 ha hlt hK m l2 listed hn hsz hc hli hcl (hd g2) g1 ⟨hf.size,hf.defers,fun i v hi=>hf.has i v (by rw[<-he i];exact hi)⟩
 intro m
 induction m with
 | zero=>
  intro l1 l2 listed fr I a w hn hsz hc haft hli hcl h ho hf
  obtain rfl:l1=[]:=List.length_eq_zero_iff.1 z6
  exact nil 0 l2 listed (j1 hn) hsz hc hli hcl h ho hf
 | succ m ih=>
  intro l1 l2 listed fr I a w hn hsz hc haft hli hcl h ho hf
  by_cases hnil:l1=[]
  .subst hnil
   exact nil (m+1) l2 listed (j1 hn) hsz hc hli hcl h ho hf
  obtain⟨l,hl⟩:∃ l,l=l1++l2:=⟨_,rfl⟩
  rw[<-hl]at hc hli hcl
  have hlist:∀ e,e<ops.size->e∉l->listed.getD e false=true:=by
   intro e he hne
   have h1:¬ listed.getD e true=false:=fun q=>hne ((hli e he).1 q)
   have hlt':e<listed.size:=by omega
   simp only[mY,Array.getElem?_eq_getElem hlt',Option.getD_some]at h1⊢
   simpa using h1
  refine⟨?_,?_⟩
  .intro hr
   exfalso
   cases l with
   | nil=>have:=mi List.length hl;simp at this;omega
   | cons x rest=>
    have hx:=ad1 hc x (List.mem_cons_self ..)
    have:x∈Region.ready .any ops listed:=by
     refine ad0.2 ⟨hx.1,(hli x hx.1).2 (List.mem_cons_self ..),ops[x],by simp[hx.1],?_⟩
     intro e he
     have he':e∈wj ops x:=by simp[wj,hx.1];exact he
     simp only[chk,mv]at hc
     have h1:=mz.1 hc.1.1.1.1 e he'
     simp only[mv,mV,Bool.not_eq_true',List.contains_iff_mem,<-nE]at h1
     exact hlist e (by have:=h1.1;omega) h1.2
    rw[hr]at this;cases this
  .intro i hi
   obtain⟨h1,h2,o,hoi,h3⟩:=ad0.1 hi
   have hil:=(hli i h1).1 h2
   have hedge0:∀ e∈wj ops i,e∉l:=by
    intro e he hm
    have he2:e∈ajd o:=by simpa [wj,hoi]using he
    have h4:=h3 e he2
    have hlt':=(ad1 hc e hm).1
    have:=(hli e hlt').2 hm
    have hs:e<listed.size:=by omega
    simp only[mY,Array.getElem?_eq_getElem hs,Option.getD_some]at this h4
    rw[this]at h4;cases h4
   have hanc:∀ x∈l,(x,i)∉anc:=fun x hxl h5=>by
    have hcl':∀ j,(j<ops.size->j∉l)->∀ e∈wj ops j,(e<ops.size->e∉l):=by
     intro j hj e he hes
     by_cases hjs:j<ops.size
     .exact hcl j hjs (hj hjs) e he
     .simp[wj,Array.getElem?_eq_none (Nat.le_of_not_lt hjs)]at he
    exact mC hxl (aje (L:=fun j=>j<ops.size->j∉l) ha hlt hcl' x i (fun e he _=>hedge0 e he) h5 (ad1 hc x hxl).1)
   have book:∀ pre post,l=pre++i::post->(∀x∈pre,abj ops cl x i=true)/\chk ops cl anc (pre++post)=true/\(∀j,j<ops.size->((listed.setIfInBounds i true).getD j true=false↔j∈pre++post))/\(∀j,j<ops.size->j∉pre++post->∀ e∈wj ops j,e∉pre++post):=by
    intro pre post hlp
    have hc0:=hc
    rw[hlp]at hc0
    have hpass:∀ x∈pre,abj ops cl x i=true:=by
     have gen:∀ (p:List Nat),chk ops cl anc (p++i::post)=true->∀ x∈p,abj ops cl x i=true\/x∈wj ops i\/(x,i)∈anc:=by
      intro p
      induction p with
      | nil=>intro _ x hx;cases hx
      | cons y p ihp=>
       intro hc x hx
       simp only[nq,chk,mv]at hc
       rcases mD.1 hx with rfl | hx
       .have:=mz.1 hc.1.2 i z7
        simp only[Bool.or_eq_true,List.contains_iff_mem]at this
        rcases this with(h | h) | h
        .exact .inl h
        .exact .inr (.inl h)
        .exact .inr (.inr h)
       .exact ihp hc.2 x hx
     intro x hx
     have hxm:x∈l:=by rw[hlp];exact LD _ hx
     rcases gen pre hc0 x hx with h | h | h
     .exact h
     .exact mC hxm (hedge0 x h)
     .exact mC h (hanc x hxm)
    have hnd:i∉pre++post:=by
     have:(pre++i::post).Nodup:=by
      have gen:∀ l:List Nat,chk ops cl anc l=true->l.Nodup:=by
       intro l
       induction l with
       | nil=>intro _;exact List.nodup_nil
       | cons y r ihr=>
        intro hc
        simp only[chk,mv,Bool.not_eq_true']at hc
        refine Lc.2 ⟨?_,ihr hc.2⟩
        have:=hc.1.1.1.2
        intro hm;rw[List.contains_iff_mem.2 hm]at this;cases this
      exact gen _ hc0
     have:=(List.perm_middle (a:=i) (l₁:=pre) (l₂:=post)).nodup_iff.1 this
     exact(Lc.1 this).1
    have hc':chk ops cl anc (pre++post)=true:=by
     have gen:∀ (p:List Nat),chk ops cl anc (p++i::post)=true->chk ops cl anc (p++post)=true:=by
      intro p
      induction p with
      | nil=>intro hc;simp only[nZ,chk,mv]at hc;exact hc.2
      | cons y p ihp=>
       intro hc
       simp only[nq,chk,mv]at hc⊢
       obtain⟨⟨⟨⟨c1,c2⟩,c3⟩,c4⟩,c5⟩:=hc
       refine⟨⟨⟨⟨?_,?_⟩,c3⟩,?_⟩,ihp c5⟩
       .refine mz.2 fun e he=>?_
        have:=mz.1 c1 e he
        simp only[mv,Bool.not_eq_true',<-nE,List.contains_iff_mem]at this⊢
        refine⟨this.1,fun hm=>this.2 ?_⟩
        simp only[mD,mt]at hm⊢
        rcases hm with h | h | h
        .exact .inl h
        .exact .inr (.inl h)
        .exact .inr (.inr (.inr h))
       .simp only[Bool.not_eq_true',<-nE,List.contains_iff_mem]at c2⊢
        intro hm;apply c2
        simp only[mt,mD]at hm⊢
        exact hm.imp id .inr
       .refine mz.2 fun j hj=>mz.1 c4 j ?_
        simp only[mt,mD]at hj⊢
        exact hj.imp id .inr
     exact gen pre hc0
    have hmem:∀ j,j∈pre++post↔j∈l/\j≠i:=by
     intro j
     rw[hlp]
     simp only[mt,mD]
     constructor
     .intro(hh:j∈pre\/j∈post)
      refine⟨hh.imp id .inr,fun e=>?_⟩
      subst e;exact hnd (mt.2 hh)
     .rintro⟨h | h | h,hne⟩
      .exact .inl h
      .exact mC h hne
      .exact .inr h
    refine⟨hpass,hc',fun j hj=>?_,fun j hj hjn e he hm=>?_⟩
    .rw[hmem]
     by_cases e:j=i
     .subst e
      have:j<listed.size:=by omega
      simp[mY,this]
     .rw[ab5.Region_getD_set e]
      constructor
      .intro h;exact⟨(hli j hj).1 h,e⟩
      .intro h;exact(hli j hj).2 h.1
    .have hm':=((hmem e).1 hm).1
     by_cases e':j=i
     .subst e';exact hedge0 e he hm'
     .exact hcl j hj (fun hh=>hjn ((hmem j).2 ⟨hh,e'⟩)) e he hm'
   rw[hl]at hil
   rcases mt.1 hil with hi1 | hi2
   .obtain⟨pre,post1,rfl⟩:=List.append_of_mem hi1
    obtain⟨b1,b2,b3,b4⟩:=book pre (post1++l2) (by rw[hl];simp)
    rw[<-mI]at b2 b3 b4
    have hd:=adp (P:=P) (B:=B) (N:=N) (hC l2) post1 pre b1 ⟨φ,w,ho⟩ h
    refine ab5.D1.sound hoi hd ho hf fun fr I a w hk ho hf=>ih (pre++post1) l2 _ ?_ (j1 hsz) b2 (fun j hj=>?_) b3 b4 hk ho hf
    .simp at hn ⊢;omega
    .exact(haft j hj).imp id fun h x hx=>h x (by simp only[mt,mD]at hx ⊢;exact hx.imp id .inr)
   .have h0:cl i=0:=by
     rcases haft i hi2 with h | h
     .exact h
     .exfalso
      cases l1 with
      | nil=>exact hnil rfl
      | cons x r=>
       have hxl:x∈l:=by rw[hl];exact LD _ (List.mem_cons_self ..)
       rcases h x (List.mem_cons_self ..)with h5 | h5
       .exact hedge0 x h5 hxl
       .exact hanc x hxl h5
    obtain⟨pre,post,rfl⟩:=List.append_of_mem hi2
    obtain⟨b1,b2,b3,b4⟩:=book (l1++pre) post (by rw[hl];simp)
    rw[mI]at b2 b3 b4
    have hr:qI ψ ro:=fun b o hb=>(hp b o hb).2
    have hd:=atl (P:=P) (B:=B) (N:=N) hK hr h0 (fun x hx=>b1 x (LD _ hx)) (fun x hx=>b1 x (List.mem_append_right _ hx)) ⟨φ,w,ho⟩ h
    refine ab5.D1.sound hoi hd ho hf fun fr I a w hk ho hf=>ih l1 (pre++post) _ ?_ (j1 hsz) b2 (fun j hj=>haft j (by simp only[mt,mD]at hj ⊢;exact hj.imp id .inr)) b3 b4 hk ho hf
    simp at hn ⊢;omega
def asy(ops:Array Oper)(cl:Nat->Nat)(anc:List (Nat×Nat))(l1 l2:List Nat):Bool:=l2.all fun j=>cl j == 0 || l1.all fun i=>(wj ops j).contains i || anc.contains (i,j)
theorem AW.drawn2{K:AH->AH->Prop}(cl:Nat->Nat)(anc:List (Nat×Nat))(l1 l2:List Nat)(hm:P.follows .mixedOrders=true)(hl:uS I K)
  (hc:(chk ops cl anc (l1++l2) && agA ops anc && anG ops.size (l1++l2) && ((l1++l2).length == ops.size) && asy ops cl anc l1 l2)=true)
  (h:∀ ψ τ,K ψ τ->qR P B (join ro ψ) N ops cl (fun fr I=> ∃fr',zz fr' fr/\(qI ψ I->qR P B ro N ops cl (fun fr I=> ∃fr',zz fr' fr/\Q .normal fr' I) l2 fr' (join ψ I))) l1 fr τ):AW P B ro N (.region id ops true) Q fr I:=by
 obtain⟨ψ,τ,hd,rfl,hk⟩:=hl
 have h:=h ψ τ hk
 simp only[mv,beq_iff_eq]at hc
 obtain⟨⟨⟨⟨c1,c2⟩,c3⟩,c4⟩,c5⟩:=hc
 intro φ w a ho hf
 refine wp_region_any hm ?_
 have hp:∀ b o,ψ b=some o->φ b=none/\ro b=none:=fun b o hs=>(ho.own b o (wX hs)).2
 have hall:∀ i,i<ops.size->i∈l1++l2:=fun i hi=>List.contains_iff_mem.1 (mz.1 c3 i (List.mem_range.2 hi))
 have hlt:∀ i,∀e∈wj ops i,e<i:=by
  intro i e he
  by_cases hi:i<ops.size
  .exact(ad1 c1 i (hall i hi)).2 e he
  .simp[wj,Array.getElem?_eq_none (Nat.le_of_not_lt hi)]at he
 have hw:Own B (join ro ψ) φ τ {w with drawn:=w.drawn+1}:=(ho.lend hd).drawn _ (Nat.le_succ _)
 have haft:∀ j∈l2,cl j=0\/∀ i∈l1,i∈wj ops j\/(i,j)∈anc:=fun j hj=>by
  have:=mz.1 c5 j hj
  simp only[Bool.or_eq_true,beq_iff_eq]at this
  refine this.imp (fun x=>x) fun h i hi=>?_
  have:=mz.1 h i hi
  simpa using this
 have:=ami (P:=P) (B:=B) (ro:=ro) (N:=N) (ops:=ops) (cl:=cl) (anc:=anc) c2 hlt
  (Q:=fun e fr I=>e= .normal/\∃ fr',zz fr' fr/\Q .normal fr' I)
  (fun fr fr' I he ⟨h0,fr2,h1,h2⟩=>⟨h0,fr2,fun i=>(h1 i).trans (he i),h2⟩) (φ:=φ) (ψ:=ψ) hp (l1.length+l2.length) l1 l2 (Array.replicate ops.size false)
  (w:={w with drawn:=w.drawn+1}) (a:=a) (fr:=fr) (I:=τ) rfl z7 c1 haft
  (fun i hi=>⟨fun _=>hall i hi,fun _=>by simp[hi]⟩) (fun i hi hn=>mC (hall i hi) hn) ?_ hw hf
 .have hlen:l1.length+l2.length=ops.size:=by rw[<-mU];exact c4
  rw[hlen]at this
  refine AW.drawn.wpAny_post ?_ _ _ this
  rintro e a' w' ⟨fr',I',⟨rfl,fr2,he,hq⟩,ho',hf'⟩
  exact⟨fr2,_,hq,ho',⟨hf'.size,hf'.defers,fun i v hi=>hf'.has i v (by rw[<-he i];exact hi)⟩⟩
 .refine AW.drawn.DOps_post ?_ l1 h
  rintro fr I ⟨fr',h1,h2⟩;refine⟨fr',h1,fun hd=>AW.drawn.DOps_post ?_ l2 (h2 hd)⟩
  intro fr I hk;exact⟨rfl,hk⟩
end
end SL
namespace G
open Go SL
variable{B:World}{ro I:AH}
def yQ(B:World)(ro:AH)(Q:Bool->AH->Prop)(u0:Bool)(I:AH):=
 Q u0 I
def abP(B:World)(ro:AH)(u0:Nat)(Q:Bool->AH->Prop)(I:AH):=
 ∃u1,qb ro I ((⟨u0,0,none⟩:Addr).add 2)=some (.int .i64 u1)/\
 if u1=0 then
 vp B ro (some ⟨u0,0,none⟩) I fun u2 I=>
 yQ B ro Q (decide (u2=0)) I
 else
 yQ B ro Q false I
def abc(B:World)(ro:AH)(u0:Int)(u1:Nat)(u2:Int)(Q:Bool->AH->Prop)(Y8:(ByteArray×Int)->AH->Prop)(u3:ByteArray)(I:AH):=
 Y8 (u3,i64.wrap (u0+1)) I
def abd(B:World)(ro:AH)(u0 u1:Int)(u2:Nat)(u3:Int)(u4:ByteArray)(u5 u6:Int)(Q:Bool->AH->Prop)(Y8:(ByteArray×Int)->AH->Prop)(Y20:(Int×Sl×Int)->AH->Prop)(u7:Int)(u8:Sl)(I:AH):=
 Y20 (u7,u8,i64.wrap (u1+1)) I
def abe(B:World)(ro:AH)(u0:Int)(u1:Sl)(u2:Int)(u3:Nat)(u4:Int)(u5:ByteArray)(u6 u7 u8 u9:Int)(Q:Bool->AH->Prop)(Y8:(ByteArray×Int)->AH->Prop)(Y20:(Int×Sl×Int)->AH->Prop)(I:AH):=
 nw ro I (.cells #[.int .i64 u9] 3) fun u10 I=>
 awp prog ro (Builtin.append_ #[55,55] 55 #[Sl.v u1,Sl.v (⟨some ⟨u10,0,none⟩,1,1⟩:Sl)]) (fun v I=> ∃(u11:Sl),v=Sl.v u11/\
 abd B ro u0 u2 u3 u4 u5 u6 u7 Q Y8 Y20 u8 u11 I) I
def jR(B:World)(ro:AH)(u0:Int)(u1:Sl)(u2:Int)(u3:Nat)(u4:Int)(u5:ByteArray)(u6 u7 u8 u9:Int)(Q:Bool->AH->Prop)(Y8:(ByteArray×Int)->AH->Prop)(Y20:(Int×Sl×Int)->AH->Prop):Int->AH->(Int->AH->Prop)->Prop:=fun u10 I Y41=>
 if u10<(u1.len:Int)then
 ∃p11,u1.a=some p11/\(0:Int)<=u10/\u10<(u1.len:Int)/\
 ∃u12,qb ro I (p11.add (Int.toNat u10*1))=some (.int .i64 u12)/\
 if u12=u9 then
  Q false I
 else
 Y41 (i64.wrap (u10+1)) I
 else
 abe B ro u0 u1 u2 u3 u4 u5 u6 u7 u8 u9 Q Y8 Y20 I
def xJ(B:World)(ro:AH)(u0:Int)(u1:Sl)(u2:Int)(u3:Nat)(u4:Int)(u5:ByteArray)(u6 u7 u8 u9:Int)(Q:Bool->AH->Prop)(Y8:(ByteArray×Int)->AH->Prop)(Y20:(Int×Sl×Int)->AH->Prop)(u10:Bool)(I:AH):=
 if u10=true then
 Q false I
 else
 lfpD (jR B ro u0 u1 u2 u3 u4 u5 u6 u7 u8 u9 Q Y8 Y20) (0) I
def xK(B:World)(ro:AH)(u0:Int)(u1:Sl)(u2:Int)(u3:Nat)(u4:Int)(u5:ByteArray)(u6 u7 u8 u9 u10 u11:Int)(u12:Sl)(Q:Bool->AH->Prop)(Y8:(ByteArray×Int)->AH->Prop)(Y20:(Int×Sl×Int)->AH->Prop)(u13:Bool)(I:AH):=
 if((u13=true)\/(u10<1))\/(1048576<u10)then
 xJ B ro u0 u1 u2 u3 u4 u5 u6 u7 u8 u9 Q Y8 Y20 true I
 else
 xJ B ro u0 u1 u2 u3 u4 u5 u6 u7 u8 u9 Q Y8 Y20 ((decide (u11=0)) && (decide (0<(u12.len:Int)))) I
def jS(B:World)(ro:AH)(u0:Int)(u1:Nat)(u2:Int)(u3:ByteArray)(u4 u5:Int)(Q:Bool->AH->Prop)(Y8:(ByteArray×Int)->AH->Prop):(Int×Sl×Int)->AH->((Int×Sl×Int)->AH->Prop)->Prop:=fun⟨u6,u7,u8⟩ I Y20=>
 if u8<u5 then
 qm B ro (some ⟨u1,0,none⟩) I fun u9 I=>
 qm B ro (some ⟨u1,0,none⟩) I fun u10 I=>
 qm B ro (some ⟨u1,0,none⟩) I fun u11 I=>
 qm B ro (some ⟨u1,0,none⟩) I fun u12 I=>
 qm B ro (some ⟨u1,0,none⟩) I fun u13 I=>
 qL B ro (some ⟨u1,0,none⟩) I fun u14 I=>
 ∃u15,qb ro I ((⟨u1,0,none⟩:Addr).add 2)=some (.int .i64 u15)/\
 if((¬(u15=0))\/(u9<=u6))\/(u4<u9)then
  xK B ro u0 u7 u8 u1 u2 u3 u4 u5 u9 u10 u11 u13 u14 Q Y8 Y20 true I
 else
 agh B ro u10 I fun u16 I=>
 xK B ro u0 u7 u8 u1 u2 u3 u4 u5 u9 u10 u11 u13 u14 Q Y8 Y20 (!u16) I
 else
 abc B ro u0 u1 u2 Q Y8 u3 I
def jT(B:World)(ro:AH)(u0:ByteArray)(u1:Int)(u2:Nat)(u3:Int)(u4:ByteArray)(u5 u6:Int)(Q:Bool->AH->Prop)(Y8:(ByteArray×Int)->AH->Prop)(u7:Bool)(I:AH):=
 if(((u7=true)\/(((zD u4 u0)=true)\/(u4=u0)))\/(u5<1))\/(64<u6)then
 Q false I
 else
 lfpD (jS B ro u1 u2 u3 u4 u5 u6 Q Y8) (0,(⟨none,0,0⟩:Sl),0) I
def yR(B:World)(ro:AH)(u0:Nat)(u1:Int)(Q:Bool->AH->Prop):(ByteArray×Int)->AH->((ByteArray×Int)->AH->Prop)->Prop:=fun⟨u2,u3⟩ I Y8=>
 if u3<u1 then
 qL B ro (some ⟨u0,0,none⟩) I fun u4 I=>
 awp prog ro (convert 24 9 (Sl.v u4)) (fun v I=>
  (∃(u5:ByteArray),v= .string u5/\
  qm B ro (some ⟨u0,0,none⟩) I fun u6 I=>
  qm B ro (some ⟨u0,0,none⟩) I fun u7 I=>
  ∃u8,qb ro I ((⟨u0,0,none⟩:Addr).add 2)=some (.int .i64 u8)/\
  if¬(u8=0)then
   jT B ro u2 u3 u0 u1 u5 u6 u7 Q Y8 true I
  else
  abn B ro u5 I fun u9 I=>
  jT B ro u2 u3 u0 u1 u5 u6 u7 Q Y8 (!u9) I)) I
 else
 abP B ro u0 Q I
def aew(B:World)(ro:AH)(a0:Sl)(I:AH)(Q:Bool->AH->Prop):=
 nw ro I (.cells #[Sl.v a0,.int .i64 0,.int .i64 0] 147) fun u0 I=>
 qm B ro (some ⟨u0,0,none⟩) I fun u1 I=>
 lfpD (yR B ro u0 u1 Q) ((⟨#[]⟩:ByteArray),0) I
theorem akz{a0 Q}(h:Sep ro I->aew B ro a0 I Q):aaw B ro a0 I Q:=by
 refine zb h func110 ntmps110 fun h=>?_;unfold aew at h;refine zw ?_;refine zm (wD (vs:=[(0,Sl.v a0)]) (cs:= #[Sl.v a0,.int .i64 0,.int .i64 0]) rfl mS ajs aju rfl rfl) ?_;refine zA (wY rfl rfl) h fun u0 h=>?_;refine zC func59 h fun u1 I h=>?_;refine AW.seqJ (fun fr I=>qg [(3,.pointer (some ⟨u0,0,none⟩))] fr/\abP B ro u0 Q I) ?_ ?_
 .rintro fr I ⟨hl,h⟩;refine AW.weaken ?_ hl (HLe.refl _)
  unfold abP at h;refine zw ?_;refine zm (qC rfl rfl) ?_;refine zf mS ty3 ?_;refine zLp mj h fun u2 h=>?_;refine qn 4 (decide (u2=0)) mg h (fun fr I=> ∃(u3:Bool),qg [(140,.bool u3)] fr/\yQ B ro Q u3 I) ?_ ?_ ?_
  .intro h e5 hk5;refine zy e5 ?_;refine Lyb rfl rfl rfl rfl e5 (wu rfl func61 rfl rfl rfl (qc.mono h ?_))
   rintro v I ⟨u4,rfl,h⟩;refine zv e5 ?_;exact hk5 _ _ ⟨_,FL,h⟩
  .intro h e5 hk5;refine zv e5 ?_;exact hk5 _ _ ⟨_,FL,h⟩
  rintro fr I ⟨u3,hl,h⟩;unfold yQ at h;refine Lfr hl ?_
  exact zr h
 refine zw ?_;refine qf.loop (fr':=[(3,.pointer (some ⟨u0,0,none⟩)),(4,.int .i64 u1),(5,.string (⟨#[]⟩:ByteArray)),(6,.int .i64 0)]) ?_ FL
 refine h (fun⟨u5,u6⟩ I=>qf _ _ _ _ _ _ [(3,.pointer (some ⟨u0,0,none⟩)),(4,.int .i64 u1),(5,.string u5),(6,.int .i64 u6)] I) ?_
 rintro⟨u5,u6⟩ I Y8 hY8 h
 show AW _ _ _ _ _ _ _ _
 unfold yR at h;dsimp only at h;refine AW.seq ?_;refine zi h (fun h=>?_) fun h=>?_
 rotate_left
 .refine AW.exit ?_;refine zw ?_;refine qN ?_
  refine zw ?_;exact⟨FL,h⟩
 refine zw ?_;refine AW.seqJ (fun fr I=> ∃(u7:ByteArray),qg [(3,.pointer (some ⟨u0,0,none⟩)),(4,.int .i64 u1),(6,.int .i64 u6),(5,.string u7)] fr/\abc B ro u6 u0 u1 Q Y8 u7 I) ?_ ?_
 .rintro fr I ⟨u7,hl,h⟩;refine AW.weaken ?_ hl (HLe.refl _)
  unfold abc at h;refine zw ?_;refine qf.head (fr':=[(3,.pointer (some ⟨u0,0,none⟩)),(4,.int .i64 u1),(5,.string u7),(6,.int .i64 (i64.wrap (u6+1)))]) ?_ FL
  exact hY8 _ _ h
 refine zc func60 h ?_;rintro v I ⟨u8,rfl,h⟩;refine zl (aeK rfl rfl (qj _ h ?_))
 rintro v I ⟨u9,rfl,h⟩;refine zc func59 h ?_;rintro v I ⟨u10,rfl,h⟩;refine zC func59 h fun u11 I h=>?_;refine AW.seq ?_;refine zw ?_;refine zm (qC rfl rfl) ?_;refine zf mS ty3 ?_;refine zLp mj h fun u12 h=>?_;refine qn 4 (!(decide (u12=0))) (qp mg) h (fun fr I=> ∃(u13:Bool),qg [(3,.pointer (some ⟨u0,0,none⟩)),(4,.int .i64 u1),(5,.string u5),(6,.int .i64 u6),(7,.string u9),(8,.int .i64 u10),(9,.int .i64 u11),(45,.bool u13)] fr/\jT B ro u5 u6 u0 u1 u9 u10 u11 Q Y8 u13 I) ?_ ?_ ?_
 .intro h e5 hk5;refine zv e5 ?_;exact hk5 _ _ ⟨_,FL,h⟩
 .intro h e5 hk5;refine zy e5 ?_;refine Lyb rfl rfl rfl rfl e5 (wu rfl func37 rfl rfl rfl (qc.mono h ?_))
  rintro v I ⟨u14,rfl,h⟩;refine zv e5 ?_;exact hk5 _ _ ⟨_,FL,h⟩
 rintro fr I ⟨u13,hl,h⟩;unfold jT at h;refine Lfr hl ?_
 refine zw ?_;refine qx 4 u13 [(3,.pointer (some ⟨u0,0,none⟩)),(4,.int .i64 u1),(6,.int .i64 u6),(7,.string u9),(8,.int .i64 u10),(9,.int .i64 u11),(50,.bool (u13 || ((zD u9 u5) || (decide (u9=u5)))))] ?_ ?_ ?_
 .intro e10 hk10
  refine zv e10 ?_;exact hk10 _ (Fe e10)
 .intro e10 hk10
  refine zv e10 ?_;refine qo (ajh rfl rfl rfl) rfl rfl rfl rfl e10 ?_
  refine zk e10 ?_;exact hk10 _ (Fe e10)
 intro fr hl
 refine Lfr hl ?_
 refine zw ?_;refine qx 3 (u13 || ((zD u9 u5) || (decide (u9=u5)))) [(3,.pointer (some ⟨u0,0,none⟩)),(4,.int .i64 u1),(6,.int .i64 u6),(7,.string u9),(8,.int .i64 u10),(9,.int .i64 u11),(54,.bool ((u13 || ((zD u9 u5) || (decide (u9=u5)))) || (decide (u10<1))))] ?_ ?_ ?_
 .intro e15 hk15
  refine zv e15 ?_;exact hk15 _ (Fe e15)
 .intro e15 hk15
  refine zv e15 ?_;exact hk15 _ (Fe e15)
 intro fr hl
 refine Lfr hl ?_
 refine zw ?_;refine qx 3 ((u13 || ((zD u9 u5) || (decide (u9=u5)))) || (decide (u10<1))) [(3,.pointer (some ⟨u0,0,none⟩)),(4,.int .i64 u1),(6,.int .i64 u6),(7,.string u9),(8,.int .i64 u10),(9,.int .i64 u11),(58,.bool (((u13 || ((zD u9 u5) || (decide (u9=u5)))) || (decide (u10<1))) || (decide (64<u11))))] ?_ ?_ ?_
 .intro e19 hk19
  refine zv e19 ?_;exact hk19 _ (Fe e19)
 .intro e19 hk19
  refine zv e19 ?_;exact hk19 _ (Fe e19)
 intro fr hl
 refine Lfr hl ?_
 refine zw ?_;refine AW.iff rfl (qJ (qJ (qJ Iff.rfl (qJ Iff.rfl mg)) mg) mg) h (fun h=>?_) (fun h=>?_)
 .exact zr h
 refine zw ?_;refine qf.loop (fr':=[(3,.pointer (some ⟨u0,0,none⟩)),(4,.int .i64 u1),(5,.string u9),(6,.int .i64 u6),(8,.int .i64 u10),(9,.int .i64 u11),(10,.int .i64 0),(11,Sl.v (⟨none,0,0⟩:Sl)),(12,.int .i64 0)]) ?_ FL
 refine h (fun⟨u15,u16,u17⟩ I=>qf _ _ _ _ _ _ [(3,.pointer (some ⟨u0,0,none⟩)),(4,.int .i64 u1),(5,.string u9),(6,.int .i64 u6),(8,.int .i64 u10),(9,.int .i64 u11),(10,.int .i64 u15),(11,Sl.v u16),(12,.int .i64 u17)] I) ?_
 rintro⟨u15,u16,u17⟩ I Y20 hY20 h
 show AW _ _ _ _ _ _ _ _
 unfold jS at h;dsimp only at h;refine AW.seq ?_;refine zi h (fun h=>?_) fun h=>?_
 rotate_left
 .refine AW.exit ?_;refine zw ?_;refine qN ?_
  refine zw ?_;exact⟨_,FL,h⟩
 refine zw ?_;refine AW.seqJ (fun fr I=> ∃(u18:Int) (u19:Sl),qg [(3,.pointer (some ⟨u0,0,none⟩)),(4,.int .i64 u1),(5,.string u9),(6,.int .i64 u6),(8,.int .i64 u10),(9,.int .i64 u11),(12,.int .i64 u17),(10,.int .i64 u18),(11,Sl.v u19)] fr/\abd B ro u6 u17 u0 u1 u9 u10 u11 Q Y8 Y20 u18 u19 I) ?_ ?_
 .rintro fr I ⟨u18,u19,hl,h⟩;refine AW.weaken ?_ hl (HLe.refl _)
  unfold abd at h;refine zw ?_;refine qf.head (fr':=[(3,.pointer (some ⟨u0,0,none⟩)),(4,.int .i64 u1),(5,.string u9),(6,.int .i64 u6),(8,.int .i64 u10),(9,.int .i64 u11),(10,.int .i64 u18),(11,Sl.v u19),(12,.int .i64 (i64.wrap (u17+1)))]) ?_ FL
  exact hY20 _ _ h
 refine zc func59 h ?_;rintro v I ⟨u20,rfl,h⟩;refine zc func59 h ?_;rintro v I ⟨u21,rfl,h⟩;refine zc func59 h ?_;rintro v I ⟨u22,rfl,h⟩;refine zc func59 h ?_;rintro v I ⟨u23,rfl,h⟩;refine zc func59 h ?_;rintro v I ⟨u24,rfl,h⟩;refine zC func60 h fun u25 I h=>?_;refine AW.seq ?_;refine zw ?_;refine zm (qC rfl rfl) ?_;refine zf mS ty3 ?_;refine zLp mj h fun u26 h=>?_
 refine qx 4 (!(decide (u26=0))) [(3,.pointer (some ⟨u0,0,none⟩)),(4,.int .i64 u1),(5,.string u9),(6,.int .i64 u6),(8,.int .i64 u10),(9,.int .i64 u11),(11,Sl.v u16),(12,.int .i64 u17),(13,.int .i64 u20),(14,.int .i64 u21),(15,.int .i64 u22),(16,.int .i64 u24),(17,Sl.v u25),(86,.bool ((!(decide (u26=0))) || (decide (u20<=u15))))] ?_ ?_ ?_
 .intro e5 hk5
  refine zv e5 ?_;exact hk5 _ (Fe e5)
 .intro e5 hk5
  refine zv e5 ?_;exact hk5 _ (Fe e5)
 intro fr hl
 refine Lfr hl ?_
 refine zw ?_;refine qx 4 ((!(decide (u26=0))) || (decide (u20<=u15))) [(3,.pointer (some ⟨u0,0,none⟩)),(4,.int .i64 u1),(5,.string u9),(6,.int .i64 u6),(8,.int .i64 u10),(9,.int .i64 u11),(11,Sl.v u16),(12,.int .i64 u17),(13,.int .i64 u20),(14,.int .i64 u21),(15,.int .i64 u22),(16,.int .i64 u24),(17,Sl.v u25),(91,.bool (((!(decide (u26=0))) || (decide (u20<=u15))) || (decide (u10<u20))))] ?_ ?_ ?_
 .intro e10 hk10
  refine zv e10 ?_;exact hk10 _ (Fe e10)
 .intro e10 hk10
  refine zv e10 ?_;exact hk10 _ (Fe e10)
 intro fr hl
 refine Lfr hl ?_
 refine zw ?_;refine qn 4 (((!(decide (u26=0))) || (decide (u20<=u15))) || (decide (u10<u20))) (qJ (qJ (qp mg) mg) mg) h (fun fr I=> ∃(u27:Bool),qg [(3,.pointer (some ⟨u0,0,none⟩)),(4,.int .i64 u1),(5,.string u9),(6,.int .i64 u6),(8,.int .i64 u10),(9,.int .i64 u11),(11,Sl.v u16),(12,.int .i64 u17),(13,.int .i64 u20),(14,.int .i64 u21),(15,.int .i64 u22),(16,.int .i64 u24),(17,Sl.v u25),(96,.bool u27)] fr/\xK B ro u6 u16 u17 u0 u1 u9 u10 u11 u20 u21 u22 u24 u25 Q Y8 Y20 u27 I) ?_ ?_ ?_
 .intro h e15 hk15;refine zv e15 ?_;exact hk15 _ _ ⟨_,FL,h⟩
 .intro h e15 hk15;refine zy e15 ?_;refine Lyb rfl rfl rfl rfl e15 (wu rfl func170 rfl rfl rfl (qc.mono h ?_))
  rintro v I ⟨u28,rfl,h⟩;refine zv e15 ?_;exact hk15 _ _ ⟨_,FL,h⟩
 rintro fr I ⟨u27,hl,h⟩;unfold xK at h;refine Lfr hl ?_
 refine zw ?_;refine qx 3 u27 [(3,.pointer (some ⟨u0,0,none⟩)),(4,.int .i64 u1),(5,.string u9),(6,.int .i64 u6),(8,.int .i64 u10),(9,.int .i64 u11),(11,Sl.v u16),(12,.int .i64 u17),(13,.int .i64 u20),(14,.int .i64 u21),(15,.int .i64 u22),(16,.int .i64 u24),(17,Sl.v u25),(100,.bool (u27 || (decide (u22<1))))] ?_ ?_ ?_
 .intro e20 hk20
  refine zv e20 ?_;exact hk20 _ (Fe e20)
 .intro e20 hk20
  refine zv e20 ?_;exact hk20 _ (Fe e20)
 intro fr hl
 refine Lfr hl ?_
 refine zw ?_;refine qx 3 (u27 || (decide (u22<1))) [(3,.pointer (some ⟨u0,0,none⟩)),(4,.int .i64 u1),(5,.string u9),(6,.int .i64 u6),(8,.int .i64 u10),(9,.int .i64 u11),(11,Sl.v u16),(12,.int .i64 u17),(13,.int .i64 u20),(14,.int .i64 u21),(16,.int .i64 u24),(17,Sl.v u25),(104,.bool ((u27 || (decide (u22<1))) || (decide (1048576<u22))))] ?_ ?_ ?_
 .intro e24 hk24
  refine zv e24 ?_;exact hk24 _ (Fe e24)
 .intro e24 hk24
  refine zv e24 ?_;exact hk24 _ (Fe e24)
 intro fr hl
 refine Lfr hl ?_
 refine zw ?_;refine qn 8 ((u27 || (decide (u22<1))) || (decide (1048576<u22))) (qJ (qJ Iff.rfl mg) mg) h (fun fr I=> ∃(u29:Bool),qg [(3,.pointer (some ⟨u0,0,none⟩)),(4,.int .i64 u1),(5,.string u9),(6,.int .i64 u6),(8,.int .i64 u10),(9,.int .i64 u11),(11,Sl.v u16),(12,.int .i64 u17),(13,.int .i64 u20),(14,.int .i64 u21),(113,.bool u29)] fr/\xJ B ro u6 u16 u17 u0 u1 u9 u10 u11 u20 u21 Q Y8 Y20 u29 I) ?_ ?_ ?_
 .intro h e28 hk28;refine zv e28 ?_;refine Ln rfl rfl rfl rfl (.inr rfl) ?_
  refine Ln rfl rfl rfl rfl (.inr rfl) ?_
  refine Ln rfl rfl rfl rfl (.inr rfl) ?_
  refine zv e28 ?_;exact hk28 _ _ ⟨_,FL,h⟩
 .intro h e28 hk28;refine zv e28 ?_;refine qx 4 (decide (u24=0)) [(3,.pointer (some ⟨u0,0,none⟩)),(4,.int .i64 u1),(5,.string u9),(6,.int .i64 u6),(8,.int .i64 u10),(9,.int .i64 u11),(11,Sl.v u16),(12,.int .i64 u17),(13,.int .i64 u20),(14,.int .i64 u21),(105,.bool ((u27 || (decide (u22<1))) || (decide (1048576<u22)))),(112,.bool ((decide (u24=0)) && (decide (0<(u25.len:Int)))))] ?_ ?_ ?_
  .intro e31 hk31
   refine zy e31 ?_;refine qo (qD rfl rfl mo rfl rfl) rfl rfl rfl rfl e31 ?_
   refine zy e31 ?_;refine qo (qT rfl (evb e31) rfl) rfl rfl rfl rfl e28 ?_
   exact hk31 _ (Fe e31)
  .intro e31 hk31
   refine zv e31 ?_;refine qo (wL rfl (evb e31) rfl) rfl rfl rfl rfl e28 ?_
   exact hk31 _ (Fe e31)
  intro fr hl
  refine Lfr hl ?_
  refine zk e28 ?_;exact hk28 _ _ ⟨_,FL,h⟩
 rintro fr I ⟨u29,hl,h⟩;unfold xJ at h;refine Lfr hl ?_
 refine zj h (fun h=>?_) fun h=>?_
 .exact zr h
 refine zw ?_;refine AW.seqJ (fun fr I=>qg [(3,.pointer (some ⟨u0,0,none⟩)),(4,.int .i64 u1),(5,.string u9),(6,.int .i64 u6),(8,.int .i64 u10),(9,.int .i64 u11),(11,Sl.v u16),(12,.int .i64 u17),(13,.int .i64 u20),(14,.int .i64 u21)] fr/\abe B ro u6 u16 u17 u0 u1 u9 u10 u11 u20 u21 Q Y8 Y20 I) ?_ ?_
 .rintro fr I ⟨hl,h⟩;refine AW.weaken ?_ hl (HLe.refl _)
  unfold abe at h;refine zw ?_;refine zA (wS (vs:=[(0,.int .i64 u21)]) (cs:= #[.int .i64 u21]) rfl mx ty3 z8 rfl rfl) h fun u30 h=>?_;refine zl (yt (s:=Builtin.append_ #[55,55] 55 #[Sl.v u16,Sl.v (⟨some ⟨u30,0,none⟩,1,1⟩:Sl)]) rfl rfl (fun _=>rfl) (qj _ h ?_))
  rintro v I ⟨u31,rfl,h⟩;refine zw ?_;exact⟨_,_,FL,h⟩
 refine zw ?_;refine qf.loop (fr':=[(3,.pointer (some ⟨u0,0,none⟩)),(4,.int .i64 u1),(5,.string u9),(6,.int .i64 u6),(8,.int .i64 u10),(9,.int .i64 u11),(11,Sl.v u16),(12,.int .i64 u17),(13,.int .i64 u20),(14,.int .i64 u21),(18,.int .i64 0)]) ?_ FL
 refine h (fun u32 I=>qf _ _ _ _ _ _ [(3,.pointer (some ⟨u0,0,none⟩)),(4,.int .i64 u1),(5,.string u9),(6,.int .i64 u6),(8,.int .i64 u10),(9,.int .i64 u11),(11,Sl.v u16),(12,.int .i64 u17),(13,.int .i64 u20),(14,.int .i64 u21),(18,.int .i64 u32)] I) ?_
 rintro u32 I Y41 hY41 h
 show AW _ _ _ _ _ _ _ _
 unfold jR at h;refine AW.seq ?_;refine zw ?_;refine zm (qD rfl rfl mx rfl rfl) ?_;refine zi h (fun h=>?_) fun h=>?_
 rotate_left
 .refine AW.exit ?_;refine zw ?_;refine qN ?_
  refine zw ?_;exact⟨FL,h⟩
 refine zw ?_;refine AW.seq ?_;refine zw ?_;obtain⟨p33,ha,h0,h1,h⟩:=h
 refine zm (wR rfl mx ty3 (ixL rfl ha) rfl h0 h1) ?_;refine zL mj h fun u34 h=>?_;refine zi h (fun h=>?_) fun h=>?_
 .exact zr h
 refine zw ?_;refine qf.head (fr':=[(3,.pointer (some ⟨u0,0,none⟩)),(4,.int .i64 u1),(5,.string u9),(6,.int .i64 u6),(8,.int .i64 u10),(9,.int .i64 u11),(11,Sl.v u16),(12,.int .i64 u17),(13,.int .i64 u20),(14,.int .i64 u21),(18,.int .i64 (i64.wrap (u32+1)))]) ?_ FL
 exact hY41 _ _ h
def adD(B:World)(ro:AH)(a0:Int)(I:AH)(Q:Bool->AH->Prop):=
 Q ((decide (1<=a0)) && (decide (a0<=4611686018427387903))) I
theorem aj0{a0 Q}(h:Sep ro I->adD B ro a0 I Q):agh B ro a0 I Q:=by
 refine zb h func170 ntmps170 fun h=>?_;unfold adD at h;refine zw ?_;refine qx 3 (decide (1<=a0)) [(8,.bool ((decide (1<=a0)) && (decide (a0<=4611686018427387903))))] ?_ ?_ ?_
 .intro e2 hk2
  refine zv e2 ?_;exact hk2 _ (Fe e2)
 .intro e2 hk2
  refine zv e2 ?_;exact hk2 _ (Fe e2)
 intro fr hl
 refine Lfr hl ?_
 exact zr h
end G
namespace SL
open Go
variable{P:Program}{B:World}{ro I I':AH}{tag tag':Nat->Nat}
variable{I1 τ:AH}{a:Addr}{C R:List Nat}{l:List Value}{b r:Nat}{tag1:Nat->Nat}{s:Sl}{v:Value}
abbrev T7:Nat->Nat:=fun _=>7
theorem qd.hle(st:qd R ro T7 I tag1 I1)(h:7∉R):HLe I I1:=fun b o hb=>(st.keep b o hb h).2
theorem qi.hle(st:qi C ro T7 I tag1 I1)(h:7∉C):HLe I I1:=by
 obtain⟨R,h1,h2⟩:=st
 exact h2.hle fun m=>h (h1 7 m)
theorem asz{o:Obj}(h:HLe I I')(hr:rd ro I b=some o):rd ro I' b=some o:=by
 unfold rd at hr⊢
 cases hb:ro b with
 | some x=>rw[hb]at hr;exact hr
 | none=>rw[hb]at hr;exact h b o hr
theorem apy(h:HLe I I')(hr:qb ro I a=some v):qb ro I' a=some v:=by
 unfold qb at hr⊢
 cases hb:rd ro I a.block with
 | none=>rw[hb]at hr;simp[wM]at hr
 | some o=>rw[asz h hb,<-hb];exact hr
theorem qU.hle(h:qU ro I s l)(k:HLe I I'):qU ro I' s l:=⟨h.1,h.2.1,fun p hp i v hv=>apy k (h.2.2 p hp i v hv)⟩
def aex(I:AH)(tag tag1:Nat->Nat):Nat->Nat:=fun c=>if(I c).isSome then tag c else tag1 c
theorem qi.mix(st:qi C ro T7 I tag1 I1)(h:7∉C)(tag:Nat->Nat):∀ R,qd R ro tag I (aex I tag tag1) I1:=fun R=>by
 have hl:=st.hle h
 exact⟨fun b o hb _=>⟨by simp[aex,hb],hl b o hb⟩,fun b o hb=>⟨by simp[aex,hb],o,hl b o hb⟩,st.sep⟩
theorem amj{K:AH->AH->Prop}(h:K I (fun _=>none)):uS I K:=by
 refine⟨I,fun _=>none,fun c o hc=>rfl,?_,h⟩
 funext c;unfold join;cases I c<;>rfl
theorem Sep.none:Sep ro (fun _=>Option.none):=fun c o hc=>by cases hc
theorem pV(hs:Sep ro I)(h:qb ro I a=some v):qb (join ro I) τ a=some v:=by
 unfold qb rd at h⊢
 cases hr:ro a.block with
 | some o=>rw[hr]at h;unfold join;rw[hr];exact h
 | none=>
  rw[hr]at h
  cases hb:I a.block with
  | none=>simp only at h;rw[hb]at h;simp[wM]at h
  | some o=>unfold join;simp only[hr,hb]at h ⊢;exact h
theorem qU.all(h:qU ro I s l)(hs:Sep ro I):qU (join ro I) τ s l:=⟨h.1,h.2.1,fun p hp i v hv=>pV hs (h.2.2 p hp i v hv)⟩
theorem afz(hs:Sep ro I)(hd:qI I τ)(ht:Sep (join ro I) τ)(tag:Nat->Nat):∀ R,qd R ro tag I (aex I tag tag1) (join I τ):=fun R=>
 ⟨fun b o hb _=>⟨by simp[aex,hb],wX hb⟩,fun b o hb=>⟨by simp[aex,hb],o,wX hb⟩,fun c o hc=>by
  rcases pJ hc with h | ⟨h1,h2⟩
  .exact hs c o h
  .exact(jD (ht c o h2)).1⟩
theorem Row.allB{e:TypeId}(h:Row tag1 τ r e s l)(hd:qI I τ)(tag:Nat->Nat):Row (aex I tag tag1) (join I τ) r e s l:=by
 rcases h with h | ⟨b,cs,ha,ht,hb,hx⟩
 .exact .inl h
 .have hn:I b=Option.none:=by
   cases e:I b with
   | none=>rfl
   | some o=>have:=hd b o e;rw[hb]at this;cases this
  exact .inr ⟨b,cs,ha,by simp[aex,hn,ht],by unfold join;rw[hn];exact hb,hx⟩
end SL
namespace SL
open Go
variable{P:Program}{B:World}{ro I:AH}
theorem adE{f:FuncId}{args:Array Value}{Q:Value->AH->Prop}(h:qc P B (join ro I) f args (fun _=>none) fun v τ=>Sep (join ro I) τ->qI I τ->Q v (join I τ)):qc P B ro f args I Q:=by
 have h':=qc.monoS h (Q':=fun v τ=>Sep (join ro I) τ/\(Sep (join ro I) τ->qI I τ->Q v (join I τ))) fun v τ hs q=>⟨hs,q⟩
 have:=qc.lend h' (fun b o hb=>rfl)
 rw[kn]at this
 exact qc.mono this fun v I' ⟨τ,ht,hd,hs,q⟩=>by rw[ht];exact q hs hd
end SL
namespace G
open Go SL
variable{B:World}{ro I:AH}
def aan(B:World)(ro:AH)(Q:Sl->AH->Prop)(u0:Sl)(I:AH):=
 Q u0 I
def pg(B:World)(ro:AH)(a0:Option Addr)(u0:Int)(Q:Sl->AH->Prop):(Sl×Int)->AH->((Sl×Int)->AH->Prop)->Prop:=fun⟨u1,u2⟩ I Y4=>
 if u2<(if 8<u0 then 8 else u0)then
 qt B ro a0 I fun u3 I=>
 nw ro I (.cells #[.int .i64 u3] 3) fun u4 I=>
 awp prog ro (Builtin.append_ #[55,55] 55 #[Sl.v u1,Sl.v (⟨some ⟨u4,0,none⟩,1,1⟩:Sl)]) (fun v I=> ∃(u5:Sl),v=Sl.v u5/\
  Y4 (u5,i64.wrap (u2+1)) I) I
 else
 aan B ro Q u1 I
def adl(B:World)(ro:AH)(a0:Option Addr)(I:AH)(Q:Sl->AH->Prop):=
 qt B ro a0 I fun u0 I=>
 lfpD (pg B ro a0 u0 Q) ((⟨none,0,0⟩:Sl),0) I
theorem ai8{a0 Q}(h:Sep ro I->adl B ro a0 I Q):ac1 B ro a0 I Q:=by
 refine zb h func95 ntmps95 fun h=>?_;unfold adl at h;refine zw ?_;refine AW.seqJ (fun fr I=> ∃(u0:Sl),qg [(3,Sl.v u0)] fr/\aan B ro Q u0 I) ?_ ?_
 .rintro fr I ⟨u0,hl,h⟩;refine AW.weaken ?_ hl (HLe.refl _)
  unfold aan at h;exact zr h
 refine zc func54 h ?_;rintro v I ⟨u1,rfl,h⟩;refine zm (aoF rfl rfl) ?_;refine zw ?_;refine qf.loop (fr':=[(0,.pointer a0),(6,.int .i64 (if 8<u1 then 8 else u1)),(3,Sl.v (⟨none,0,0⟩:Sl)),(7,.int .i64 0)]) ?_ FL
 refine h (fun⟨u2,u3⟩ I=>qf _ _ _ _ _ _ [(0,.pointer a0),(6,.int .i64 (if 8<u1 then 8 else u1)),(3,Sl.v u2),(7,.int .i64 u3)] I) ?_
 rintro⟨u2,u3⟩ I Y4 hY4 h
 show AW _ _ _ _ _ _ _ _
 unfold pg at h;dsimp only at h;refine zw ?_;refine AW.seq ?_;refine zi h (fun h=>?_) fun h=>?_
 rotate_left
 .refine AW.exit ?_;refine zw ?_;refine qN ?_
  refine zw ?_;exact⟨_,FL,h⟩
 refine zw ?_;refine AW.seq ?_;refine zc func54 h ?_;rintro v I ⟨u4,rfl,h⟩;refine zA (wS (vs:=[(0,.int .i64 u4)]) (cs:= #[.int .i64 u4]) rfl mx ty3 z8 rfl rfl) h fun u5 h=>?_;refine zl (yt (s:=Builtin.append_ #[55,55] 55 #[Sl.v u2,Sl.v (⟨some ⟨u5,0,none⟩,1,1⟩:Sl)]) rfl rfl (fun _=>rfl) (qj _ h ?_))
 rintro v I ⟨u6,rfl,h⟩;refine zw ?_;refine qf.head (fr':=[(0,.pointer a0),(6,.int .i64 (if 8<u1 then 8 else u1)),(3,Sl.v u6),(7,.int .i64 (i64.wrap (u3+1)))]) ?_ FL
 exact hY4 _ _ h
end G
namespace SL
open Go
variable{ro I:AH}{tag:Nat->Nat}
variable{K:AH->Prop}{l vs:List Value}{b c n r:Nat}{e:TypeId}
theorem aqI{i:Nat}{v:Value}(h:stN ((⟨b,0,none⟩:Addr).add (i*1)) (fun I=>stN ⟨b,0,none⟩ K vs (i+1) I) [v] 0 I):stN ⟨b,0,none⟩ K (v::vs) i I:=by
 have e:((⟨b,0,none⟩:Addr).add (i*1)).add 0=(⟨b,0,none⟩:Addr).add i:=by rw[vg,vg,vg,mX,Nat.add_zero]
 unfold stN at h⊢
 rw[e]at h
 exact h
theorem Row.stPre:∀ (vs:List Value) (i:Nat) (l:List Value) (I:AH),Row tag I r e ⟨some ⟨b,0,none⟩,n,c⟩ l->Sep ro I->i+vs.length<=l.length->(∀v∈vs,qk v=true)->
  (∀I',qd [r] ro tag I tag I'->Row tag I' r e ⟨some ⟨b,0,none⟩,n,c⟩ (l.take i++vs++l.drop (i+vs.length))->K I')->stN ⟨b,0,none⟩ K vs i I:=by
 intro vs
 induction vs with
 | nil=>
  intro i l I h hs _ _ hK
  refine hK I (qd.refl hs) ?_
  simpa using h
 | cons v vs ih=>
  intro i l I h hs hl hv hK
  simp only[mA]at hl
  refine aqI ?_
  refine h.st hs rfl z6 (hv v z7) fun I1 st1 h1=>?_
  refine ih (i+1) (l.set i v) I1 h1 st1.sep y6 (fun w hw=>hv w (by simp[hw])) fun I2 st2 h2=>?_
  refine hK I2 (st1.trans st2) ?_
  have e1:(l.set i v).take (i+1)=l.take i++[v]:=by
   rw[np,List.take_set_of_le (mH _),List.getElem?_set_self z6];try rfl
  have e2:(l.set i v).drop (i+1+vs.length)=l.drop (i+(v::vs).length):=by
   rw[List.drop_set_of_lt z6];congr 1;simp;omega
  rw[e1,e2]at h2
  simpa using h2
theorem arI{o:Nat}:∀ (vs:List Value) (i:Nat) {I:AH},stN ⟨b,0,none⟩ K vs (o+i) I->stN ((⟨b,0,none⟩:Addr).add o) K vs i I:=by
 intro vs
 induction vs with
 | nil=>intro i I h;exact h
 | cons v vs ih=>
  intro i I h
  unfold stN at h⊢
  rw[aiZ]
  exact stN_mono' h fun I h=>by
   have:=ih (i+1) (I:=I) (by rw[show o+(i+1)=o+i+1 by omega];exact h)
   exact this
where
 stN_mono' {a:Addr} {v:Value} {K K':AH->Prop} {I:AH} (h:qk v=true/\a.spot=none/\∃ c e fz,I a.block=some (.cells c e fz)/\a.off<c.size/\¬ (fz.1<=a.off/\a.off<fz.2)/\K (upd I a.block (.cells (c.setIfInBounds a.off v) e fz)))
   (hk:∀ I,K I->K' I):qk v=true/\a.spot=none/\∃ c e fz,I a.block=some (.cells c e fz)/\a.off<c.size/\¬ (fz.1<=a.off/\a.off<fz.2)/\K' (upd I a.block (.cells (c.setIfInBounds a.off v) e fz)):=by
  obtain⟨h1,h2,c,e,fz,h3,h4,h5,h6⟩:=h
  exact⟨h1,h2,c,e,fz,h3,h4,h5,hk _ h6⟩
theorem Row.stAt(vs:List Value)(i:Nat)(h:Row tag I r e ⟨some ⟨b,0,none⟩,n,c⟩ l)(hs:Sep ro I)(hl:i+vs.length<=l.length)(hv:∀ v∈vs,qk v=true)
  (hK:∀ I',qd [r] ro tag I tag I'->Row tag I' r e ⟨some ⟨b,0,none⟩,n,c⟩ (l.take i++vs++l.drop (i+vs.length))->K I'):stN ((⟨b,0,none⟩:Addr).add i) K vs 0 I:=
 arI vs 0 (h.stPre vs i l I hs hl hv hK)
end SL
namespace Zt
open Go SL G Pa Wi
variable{B:World}[Zd B]{ro I I':AH}{tag tag':Nat->Nat}
theorem atE:ql prog 132 (.agg #[.int .i64 0,.int .i64 0,.string ByteArray.empty]) 3 32:=ql.of y0
theorem atm{n m:Nat}:(if(m:Int)<(n:Int)then(m:Int)else(n:Int))=((min n m:Nat):Int):=by
 split<;>omega
end Zt
namespace G
open Go SL
variable{B:World}{ro I:AH}
def pW(B:World)(ro:AH)(Q:Bool->AH->Prop)(u0:Bool)(I:AH):=
 Q u0 I
def yS(B:World)(ro:AH)(u0:Option Addr)(Q:Bool->AH->Prop)(u1:Bool)(I:AH):=
 if u1=true then
 ∃p2,u0=some p2/\
 ab8 B ro (some p2) I fun u3 I=>
 pW B ro Q (decide ((u3.len:Int)=3)) I
 else
 pW B ro Q false I
def uJ(B:World)(ro:AH)(u0:Option Addr)(Q:Bool->AH->Prop)(u1:Bool)(I:AH):=
 if u1=true then
 ∃p2,u0=some p2/\
 ac0 B ro (some p2) I fun u3 I=>
 yS B ro u0 Q (decide (u3=0)) I
 else
 yS B ro u0 Q false I
def aey(B:World)(ro I:AH)(Q:Bool->AH->Prop):Prop:=
 nw ro I (.cells #[.int .i64 0,.int .i64 1,.int .i64 2] 3) fun u0 I=>
 af3 B ro (⟨some ⟨u0,0,none⟩,3,3⟩:Sl) I fun u1 u2 I=>
 if(u1=none)\/(¬(u2=0))then
 Q false I
 else
 aaK B ro u1 1 (⟨#[97]⟩:ByteArray) 0 0 5 100 0 0 (⟨none,0,0⟩:Sl) ByteArray.empty false 0 (⟨none,0,0⟩:Sl) I fun u3 u4 u5 u6 u7 u8 u9 u10 u11 u12 u13 u14 I=>
 nw ro I (.cells #[.int .i64 0,.int .i64 0,Sl.v (⟨none,0,0⟩:Sl),.int .i64 0,Sl.v (⟨none,0,0⟩:Sl),.int .i64 0,.int .i64 0,.int .i64 0,.int .i64 0,Sl.v (⟨none,0,0⟩:Sl),Sl.v (⟨none,0,0⟩:Sl),.int .i64 0] 30) fun u15 I=>
 stN ⟨u15,0,none⟩ (fun I=>
 ∃u16,qb ro I ⟨u15,0,none⟩=some (.int .i64 u16)/\
 if u16=0 then
  ∃u17,qb ro I ((⟨u15,0,none⟩:Addr).add 1)=some (.int .i64 u17)/\
  uJ B ro u1 Q (decide (u17=1)) I
 else
 uJ B ro u1 Q false I) [.int .i64 u3,.int .i64 u4,Sl.v u5,.int .i64 u6,Sl.v u7,.int .i64 u8,.int .i64 u9,.int .i64 u10,.int .i64 u11,Sl.v u12,Sl.v u13,.int .i64 u14] 0 I
theorem akA{Q}(h:Sep ro I->aey B ro I Q):acl B ro I Q:=by
 refine zb h func20 ntmps20 fun h=>?_;unfold aey at h;refine zw ?_;refine zA (wS (vs:=[(0,.int .i64 0),(1,.int .i64 1),(2,.int .i64 2)]) (cs:= #[.int .i64 0,.int .i64 1,.int .i64 2]) rfl mx ty3 z8 rfl rfl) h fun u0 h=>?_;refine zc func21 h ?_;rintro v I ⟨u1,u2,rfl,h⟩;refine zw ?_;refine AW.seq ?_;refine zw ?_;refine zm (afI rfl underlying51 rfl rfl) ?_
 refine zw ?_;refine qx 3 u1.isNone [(1,.pointer u1),(14,.bool (u1.isNone || (!(decide (u2=0)))))] ?_ ?_ ?_
 .intro e2 hk2
  refine zv e2 ?_;exact hk2 _ (Fe e2)
 .intro e2 hk2
  refine zv e2 ?_;exact hk2 _ (Fe e2)
 intro fr hl
 refine Lfr hl ?_
 refine zw ?_;refine AW.iff rfl (qJ vP (qp mg)) h (fun h=>?_) (fun h=>?_)
 .exact zr h
 refine zw ?_;refine zm (wD (vs:=[(0,.int .i64 1),(1,.string (⟨#[97]⟩:ByteArray)),(4,.int .i64 5),(5,.int .i64 100)]) (cs:= #[.int .i64 1,.string (⟨#[97]⟩:ByteArray),.int .i64 0,.int .i64 0,.int .i64 5,.int .i64 100,.int .i64 0,.int .i64 0,Sl.v (⟨none,0,0⟩:Sl),.string ByteArray.empty,.bool false,.int .i64 0,Sl.v (⟨none,0,0⟩:Sl)]) rfl nP ake atx rfl y0) ?_
 refine zc func22 h ?_;rintro v I ⟨u3,u4,u5,u6,u7,u8,u9,u10,u11,u12,u13,u14,rfl,h⟩;refine zA (vw rfl pB) h fun u15 h=>?_;refine zs pB h fun I h=>?_;refine zf nV af2 ?_;refine zLp Pf h fun u16 h=>?_;refine qn 4 (decide (u16=0)) mg h (fun fr I=> ∃(u17:Bool),qg [(1,.pointer u1),(25,.bool u17)] fr/\uJ B ro u1 Q u17 I) ?_ ?_ ?_
 .intro h e3 hk3;refine qo (qK rfl nV rfl ty3 z8 rfl) rfl rfl rfl rfl e3 ?_
  obtain⟨u18,hc,h⟩:=h
  refine Lyb rfl rfl rfl rfl e3 (wU rfl mj rfl rfl hc ?_)
  refine zv e3 ?_;exact hk3 _ _ ⟨_,FL,h⟩
 .intro h e3 hk3;refine zv e3 ?_;exact hk3 _ _ ⟨_,FL,h⟩
 rintro fr I ⟨u17,hl,h⟩;unfold uJ at h;refine Lfr hl ?_
 refine zw ?_;refine qn 6 u17 Iff.rfl h (fun fr I=> ∃(u19:Bool),qg [(1,.pointer u1),(32,.bool u19)] fr/\yS B ro u1 Q u19 I) ?_ ?_ ?_
 .intro h e8 hk8;refine zy e8 ?_;obtain⟨p20,hc,h⟩:=h
  refine qo (qC rfl (by rw[<-hc];try rfl)) rfl rfl rfl rfl e8 ?_
  refine qo (qK rfl ny rfl aeM z8 rfl) rfl rfl rfl rfl e8 ?_
  refine Lyb rfl rfl rfl rfl e8 (wu rfl func62 rfl rfl rfl (qc.mono h ?_))
  rintro v I ⟨u21,rfl,h⟩;refine zv e8 ?_;exact hk8 _ _ ⟨_,FL,h⟩
 .intro h e8 hk8;refine zv e8 ?_;exact hk8 _ _ ⟨_,FL,h⟩
 rintro fr I ⟨u19,hl,h⟩;unfold yS at h;refine Lfr hl ?_
 refine zw ?_;refine qn 7 u19 Iff.rfl h (fun fr I=> ∃(u22:Bool),qg [(40,.bool u22)] fr/\pW B ro Q u22 I) ?_ ?_ ?_
 .intro h e15 hk15;refine zy e15 ?_;obtain⟨p23,hc,h⟩:=h
  refine qo (qC rfl (by rw[<-hc];try rfl)) rfl rfl rfl rfl e15 ?_
  refine qo (qK rfl ny rfl aeM z8 rfl) rfl rfl rfl rfl e15 ?_
  refine Lyb rfl rfl rfl rfl e15 (wu rfl func63 rfl rfl rfl (qc.mono h ?_))
  rintro v I ⟨u24,rfl,h⟩;refine qo (qD rfl rfl mx rfl rfl) rfl rfl rfl rfl e15 ?_
  refine zv e15 ?_;exact hk15 _ _ ⟨_,FL,h⟩
 .intro h e15 hk15;refine zv e15 ?_;exact hk15 _ _ ⟨_,FL,h⟩
 rintro fr I ⟨u22,hl,h⟩;unfold pW at h;refine Lfr hl ?_
 exact zr h
end G
namespace Zt
open Go SL G Pa Wi
variable{B:World}[Zd B]{ro I I':AH}{tag tag':Nat->Nat}
theorem uR(r:Rd):(qa r).2.rest.length<=r.rest.length:=by
 unfold qa
 split
 .exact mH _
 .simp
theorem yz(r:Rd):(rblob r).2.rest.length<=r.rest.length/\(rblob r).1.length<=r.rest.length:=by
 by_cases h:(rblob r).2.err=0
 .have e:=mi List.length (zB h).2
  unfold ue at e
  simp only[mU]at e
  omega
 .have h1:=alp h
  rw[h1]
  refine⟨?_,z7⟩
  unfold rblob at h⊢
  have:=uR r
  split
  .exact this
  .split
   .exact mH _
   .simp only[Lg];omega
end Zt
namespace G
open Go SL
variable{B:World}{ro I:AH}
def agd(B:World)(ro:AH)(a0:Sl)(I:AH)(Q:Option Addr->Int->AH->Prop):=
 xx B ro a0 I fun u0 I=>
 if¬(u0=true)then
 Q none 190 I
 else
 jA B ro a0 I fun u1 I=>
 af4 B ro I fun u2 I=>
 aei B ro I fun u3 I=>
 af5 B ro I fun u4 I=>
 nw ro I (.cells #[.int .i64 0,Sl.v u1,.pointer u2,.pointer u3,.pointer u4] 153) fun u5 I=>
 Q (some ⟨u5,0,none⟩) 0 I
theorem amk{a0 Q}(h:Sep ro I->agd B ro a0 I Q):af3 B ro a0 I Q:=by
 refine zb h func21 ntmps21 fun h=>?_;unfold agd at h;refine zw ?_;refine AW.seq ?_;refine zC func64 h fun u0 I h=>?_;refine AW.iff rfl (qp Iff.rfl) h (fun h=>?_) (fun h=>?_)
 .exact zrr h
 refine zc func65 h ?_;rintro v I ⟨u1,rfl,h⟩;refine zm (wD (vs:=[(0,.int .i64 0),(1,Sl.v u1)]) (cs:= #[.int .i64 0,Sl.v u1]) rfl Lu aeM ard rfl rfl) ?_;refine zc func66 h ?_;rintro v I ⟨u2,rfl,h⟩;refine zc func67 h ?_;rintro v I ⟨u3,rfl,h⟩;refine zc func68 h ?_;rintro v I ⟨u4,rfl,h⟩;refine zm (wD (vs:=[(0,.agg #[.int .i64 0,Sl.v u1]),(1,.pointer u2),(2,.pointer u3),(3,.pointer u4)]) (cs:= #[.int .i64 0,Sl.v u1,.pointer u2,.pointer u3,.pointer u4]) rfl ny ara arf rfl rfl) ?_
 refine zA (wY rfl rfl) h fun u5 h=>?_;exact zrr h
def zJ(B:World)(ro:AH)(a0:Option Addr)(u0 u1:Nat)(Q:Int->Int->Sl->Int->Sl->Int->Int->Int->Int->Sl->Sl->Int->AH->Prop)(u2:Bool)(I:AH):=
 if u2=true then
 ∃u3 u4 u5 u6 u7 u8 u9 u10 u11 u12 u13 u14 u15,qB ro I ⟨u0,0,none⟩ 0 [.int .i64 u3,.string u4,.int .i64 u5,.int .i64 u6,.int .i64 u7,.int .i64 u8,.int .i64 u9,.int .i64 u10,Sl.v u11,.string u12,.bool u13,.int .i64 u14,Sl.v u15]/\
 agJ B ro a0 u3 u4 u5 u6 u7 u8 u9 u10 u11 u12 u13 u14 u15 I fun u16 u17 u18 u19 u20 u21 u22 u23 u24 u25 u26 u27 I=>
 stN ⟨u1,0,none⟩ (fun I=>
  ∃u28 u29 u30 u31 u32 u33 u34 u35 u36 u37 u38 u39,qB ro I ⟨u1,0,none⟩ 0 [.int .i64 u28,.int .i64 u29,Sl.v u30,.int .i64 u31,Sl.v u32,.int .i64 u33,.int .i64 u34,.int .i64 u35,.int .i64 u36,Sl.v u37,Sl.v u38,.int .i64 u39]/\
  Q u28 u29 u30 u31 u32 u33 u34 u35 u36 u37 u38 u39 I) [.int .i64 u16,.int .i64 u17,Sl.v u18,.int .i64 u19,Sl.v u20,.int .i64 u21,.int .i64 u22,.int .i64 u23,.int .i64 u24,Sl.v u25,Sl.v u26,.int .i64 u27] 0 I
 else
 aej B ro 170 I fun u40 u41 u42 u43 u44 u45 u46 u47 u48 u49 u50 u51 I=>
 stN ⟨u1,0,none⟩ (fun I=>
 ∃u52 u53 u54 u55 u56 u57 u58 u59 u60 u61 u62 u63,qB ro I ⟨u1,0,none⟩ 0 [.int .i64 u52,.int .i64 u53,Sl.v u54,.int .i64 u55,Sl.v u56,.int .i64 u57,.int .i64 u58,.int .i64 u59,.int .i64 u60,Sl.v u61,Sl.v u62,.int .i64 u63]/\
 Q u52 u53 u54 u55 u56 u57 u58 u59 u60 u61 u62 u63 I) [.int .i64 u40,.int .i64 u41,Sl.v u42,.int .i64 u43,Sl.v u44,.int .i64 u45,.int .i64 u46,.int .i64 u47,.int .i64 u48,Sl.v u49,Sl.v u50,.int .i64 u51] 0 I
def aa2(B:World)(ro:AH)(a0:Option Addr)(a1_0:Int)(a1_1:ByteArray)(a1_2 a1_3 a1_4 a1_5 a1_6 a1_7:Int)(a1_8:Sl)(a1_9:ByteArray)(a1_10:Bool)(a1_11:Int)(a1_12:Sl)(I:AH)(Q:Int->Int->Sl->Int->Sl->Int->Int->Int->Int->Sl->Sl->Int->AH->Prop):=
 nw ro I (.cells #[.int .i64 a1_0,.string a1_1,.int .i64 a1_2,.int .i64 a1_3,.int .i64 a1_4,.int .i64 a1_5,.int .i64 a1_6,.int .i64 a1_7,Sl.v a1_8,.string a1_9,.bool a1_10,.int .i64 a1_11,Sl.v a1_12] 57) fun u0 I=>
 nw ro I (.cells #[.int .i64 0,.int .i64 0,Sl.v (⟨none,0,0⟩:Sl),.int .i64 0,Sl.v (⟨none,0,0⟩:Sl),.int .i64 0,.int .i64 0,.int .i64 0,.int .i64 0,Sl.v (⟨none,0,0⟩:Sl),Sl.v (⟨none,0,0⟩:Sl),.int .i64 0] 30) fun u1 I=>
 ∃u2,qb ro I ⟨u0,0,none⟩=some (.int .i64 u2)/\
 if u2=1 then
 ∃u3 u4 u5 u6 u7 u8 u9 u10 u11 u12 u13 u14 u15,qB ro I ⟨u0,0,none⟩ 0 [.int .i64 u3,.string u4,.int .i64 u5,.int .i64 u6,.int .i64 u7,.int .i64 u8,.int .i64 u9,.int .i64 u10,Sl.v u11,.string u12,.bool u13,.int .i64 u14,Sl.v u15]/\
 abo B ro a0 u3 u4 u5 u6 u7 u8 u9 u10 u11 u12 u13 u14 u15 I fun u16 u17 u18 u19 u20 u21 u22 u23 u24 u25 u26 u27 I=>
 stN ⟨u1,0,none⟩ (fun I=>
  ∃u28 u29 u30 u31 u32 u33 u34 u35 u36 u37 u38 u39,qB ro I ⟨u1,0,none⟩ 0 [.int .i64 u28,.int .i64 u29,Sl.v u30,.int .i64 u31,Sl.v u32,.int .i64 u33,.int .i64 u34,.int .i64 u35,.int .i64 u36,Sl.v u37,Sl.v u38,.int .i64 u39]/\
  Q u28 u29 u30 u31 u32 u33 u34 u35 u36 u37 u38 u39 I) [.int .i64 u16,.int .i64 u17,Sl.v u18,.int .i64 u19,Sl.v u20,.int .i64 u21,.int .i64 u22,.int .i64 u23,.int .i64 u24,Sl.v u25,Sl.v u26,.int .i64 u27] 0 I
 else
 if u2=4 then
 uS I fun ψ I=>
  ∃p40,a0=some p40/\
  ∃u41,qb (join ro ψ) (fun _=>none) (p40.add 3)=some (.pointer u41)/\
  ∃u42,qb (join ro ψ) (fun _=>none) ((⟨u0,0,none⟩:Addr).add 6)=some (.int .i64 u42)/\
  ∃u43 u44 u45 u46 u47 u48 u49 u50 u51 u52 u53 u54 u55,qB (join ro ψ) I ⟨u0,0,none⟩ 0 [.int .i64 u43,.string u44,.int .i64 u45,.int .i64 u46,.int .i64 u47,.int .i64 u48,.int .i64 u49,.int .i64 u50,Sl.v u51,.string u52,.bool u53,.int .i64 u54,Sl.v u55]/\
  ae9 B (join ro ψ) u43 u44 u45 u46 u47 u48 u49 u50 u51 u52 u53 u54 u55 I fun u56 u57 I=>
  af6 B (join ro ψ) u41 u56 u57 u42 I fun u58 I=>
  (qI ψ I->(fun I=>
  if¬(u58=true)then
   aej B ro 150 I fun u59 u60 u61 u62 u63 u64 u65 u66 u67 u68 u69 u70 I=>
   stN ⟨u1,0,none⟩ (fun I=>
   ∃u71 u72 u73 u74 u75 u76 u77 u78 u79 u80 u81 u82,qB ro I ⟨u1,0,none⟩ 0 [.int .i64 u71,.int .i64 u72,Sl.v u73,.int .i64 u74,Sl.v u75,.int .i64 u76,.int .i64 u77,.int .i64 u78,.int .i64 u79,Sl.v u80,Sl.v u81,.int .i64 u82]/\
   Q u71 u72 u73 u74 u75 u76 u77 u78 u79 u80 u81 u82 I) [.int .i64 u59,.int .i64 u60,Sl.v u61,.int .i64 u62,Sl.v u63,.int .i64 u64,.int .i64 u65,.int .i64 u66,.int .i64 u67,Sl.v u68,Sl.v u69,.int .i64 u70] 0 I
  else
  ∃u83 u84 u85 u86 u87 u88 u89 u90 u91 u92 u93 u94 u95,qB ro I ⟨u0,0,none⟩ 0 [.int .i64 u83,.string u84,.int .i64 u85,.int .i64 u86,.int .i64 u87,.int .i64 u88,.int .i64 u89,.int .i64 u90,Sl.v u91,.string u92,.bool u93,.int .i64 u94,Sl.v u95]/\
  ae9 B ro u83 u84 u85 u86 u87 u88 u89 u90 u91 u92 u93 u94 u95 I fun u96 u97 I=>
  ahk B ro a0 u96 u97 I fun I=>
  stN ⟨u1,0,none⟩ (fun I=>
   ∃u98 u99 u100 u101 u102 u103 u104 u105 u106 u107 u108 u109,qB ro I ⟨u1,0,none⟩ 0 [.int .i64 u98,.int .i64 u99,Sl.v u100,.int .i64 u101,Sl.v u102,.int .i64 u103,.int .i64 u104,.int .i64 u105,.int .i64 u106,Sl.v u107,Sl.v u108,.int .i64 u109]/\
   Q u98 u99 u100 u101 u102 u103 u104 u105 u106 u107 u108 u109 I) [.int .i64 0,.int .i64 0,Sl.v (⟨none,0,0⟩:Sl),.int .i64 0,Sl.v (⟨none,0,0⟩:Sl),.int .i64 0,.int .i64 0,.int .i64 0,.int .i64 0,Sl.v (⟨none,0,0⟩:Sl),Sl.v (⟨none,0,0⟩:Sl),.int .i64 0] 0 I) (join ψ I))
 else
 if u2=8 then
 ∃u110 u111 u112 u113 u114 u115 u116 u117 u118 u119 u120 u121 u122,qB ro I ⟨u0,0,none⟩ 0 [.int .i64 u110,.string u111,.int .i64 u112,.int .i64 u113,.int .i64 u114,.int .i64 u115,.int .i64 u116,.int .i64 u117,Sl.v u118,.string u119,.bool u120,.int .i64 u121,Sl.v u122]/\
 agI B ro a0 u110 u111 u112 u113 u114 u115 u116 u117 u118 u119 u120 u121 u122 I fun u123 u124 u125 u126 u127 u128 u129 u130 u131 u132 u133 u134 I=>
 stN ⟨u1,0,none⟩ (fun I=>
  ∃u135 u136 u137 u138 u139 u140 u141 u142 u143 u144 u145 u146,qB ro I ⟨u1,0,none⟩ 0 [.int .i64 u135,.int .i64 u136,Sl.v u137,.int .i64 u138,Sl.v u139,.int .i64 u140,.int .i64 u141,.int .i64 u142,.int .i64 u143,Sl.v u144,Sl.v u145,.int .i64 u146]/\
  Q u135 u136 u137 u138 u139 u140 u141 u142 u143 u144 u145 u146 I) [.int .i64 u123,.int .i64 u124,Sl.v u125,.int .i64 u126,Sl.v u127,.int .i64 u128,.int .i64 u129,.int .i64 u130,.int .i64 u131,Sl.v u132,Sl.v u133,.int .i64 u134] 0 I
 else
 if u2=2 then
 zJ B ro a0 u0 u1 Q (decide (u2=2)) I
 else
 if u2=3 then
 zJ B ro a0 u0 u1 Q (decide (u2=3)) I
 else
 if u2=5 then
 zJ B ro a0 u0 u1 Q (decide (u2=5)) I
 else
 if u2=6 then
 zJ B ro a0 u0 u1 Q (decide (u2=6)) I
 else
 zJ B ro a0 u0 u1 Q (decide (u2=7)) I
theorem ag9{a0 a1_0 a1_1 a1_2 a1_3 a1_4 a1_5 a1_6 a1_7 a1_8 a1_9 a1_10 a1_11 a1_12 Q}(h:Sep ro I->aa2 B ro a0 a1_0 a1_1 a1_2 a1_3 a1_4 a1_5 a1_6 a1_7 a1_8 a1_9 a1_10 a1_11 a1_12 I Q):aaK B ro a0 a1_0 a1_1 a1_2 a1_3 a1_4 a1_5 a1_6 a1_7 a1_8 a1_9 a1_10 a1_11 a1_12 I Q:=by
 refine zb h func22 ntmps22 fun h=>?_;unfold aa2 at h;refine zw ?_;refine zA (wY rfl rfl) h fun u0 h=>?_;refine zAp (vw rfl pB) h fun u1 h=>?_;refine AW.seq ?_;refine zf nP ty3 ?_;refine zL mj h fun u2 h=>?_;refine zi h (fun h=>?_) fun h=>?_
 .refine zw ?_;obtain⟨u3,u4,u5,u6,u7,u8,u9,u10,u11,u12,u13,u14,u15,hc,h⟩:=h
  refine zl (jz rfl nP rfl ake rfl hc ?_)
  refine zc func69 h ?_;rintro v I ⟨u16,u17,u18,u19,u20,u21,u22,u23,u24,u25,u26,u27,rfl,h⟩;refine zsp pB h fun I h=>?_;obtain⟨u28,u29,u30,u31,u32,u33,u34,u35,u36,u37,u38,u39,hc0,h⟩:=h
  exact ahG results22 (aa4 (af0 rfl nV rfl pB hc0) afZ) ⟨_,_,_,_,_,_,_,_,_,_,_,_,rfl,h⟩
 refine zi h (fun h=>?_) fun h=>?_
 .refine AW.seq (AW.seq ?_);refine AW.drawnL (fun i=>([0,0,0,0,3,2,0,0,2,0]:List Nat).getD i 2) [(4,5),(4,8)] [0,1,2,3,6,7,4,5,8,9] mixed h j0 ?_
  clear h
  intro ψ I h
  refine zM h fun p40 h=>?_;refine zg ny agH ?_;refine zS Pb h fun u41 h=>?_;refine zg nP ty3 ?_;refine zS mj h fun u42 h=>?_;obtain⟨u43,u44,u45,u46,u47,u48,u49,u50,u51,u52,u53,u54,u55,hc,h⟩:=h
  refine Dr rfl rfl rfl rfl (ajq rfl nP rfl ake rfl hc) ?_
  refine zG func71 h ?_;rintro v I ⟨u56,u57,rfl,h⟩;refine zG func70 h ?_;rintro v I ⟨u58,rfl,h⟩;refine zw ?_;refine⟨_,zz.refl _,fun hdj=>?_⟩
  replace h:=h hdj
  refine zw ?_;refine AW.iff rfl (qp Iff.rfl) h (fun h=>?_) (fun h=>?_)
  .refine zc func72 h ?_;rintro v I ⟨u59,u60,u61,u62,u63,u64,u65,u66,u67,u68,u69,u70,rfl,h⟩;refine zsp pB h fun I h=>?_;obtain⟨u71,u72,u73,u74,u75,u76,u77,u78,u79,u80,u81,u82,hc0,h⟩:=h
   exact ahG results22 (aa4 (af0 rfl nV rfl pB hc0) afZ) ⟨_,_,_,_,_,_,_,_,_,_,_,_,rfl,h⟩
  refine zw ?_;obtain⟨u83,u84,u85,u86,u87,u88,u89,u90,u91,u92,u93,u94,u95,hc,h⟩:=h
  refine zl (jz rfl nP rfl ake rfl hc ?_)
  refine zc func71 h ?_;rintro v I ⟨u96,u97,rfl,h⟩;refine zc func73 h ?_;rintro v I ⟨rfl,h⟩;refine zw ?_;refine zm (wD (vs:=[]) (cs:= #[.int .i64 0,.int .i64 0,Sl.v (⟨none,0,0⟩:Sl),.int .i64 0,Sl.v (⟨none,0,0⟩:Sl),.int .i64 0,.int .i64 0,.int .i64 0,.int .i64 0,Sl.v (⟨none,0,0⟩:Sl),Sl.v (⟨none,0,0⟩:Sl),.int .i64 0]) rfl nV pB asg rfl y0) ?_
  refine zsp pB h fun I h=>?_;obtain⟨u98,u99,u100,u101,u102,u103,u104,u105,u106,u107,u108,u109,hc0,h⟩:=h
  exact ahG results22 (aa4 (af0 rfl nV rfl pB hc0) afZ) ⟨_,_,_,_,_,_,_,_,_,_,_,_,rfl,h⟩
 refine zi h (fun h=>?_) fun h=>?_
 .refine zw ?_;obtain⟨u110,u111,u112,u113,u114,u115,u116,u117,u118,u119,u120,u121,u122,hc,h⟩:=h
  refine zl (jz rfl nP rfl ake rfl hc ?_)
  refine zc func74 h ?_;rintro v I ⟨u123,u124,u125,u126,u127,u128,u129,u130,u131,u132,u133,u134,rfl,h⟩;refine zsp pB h fun I h=>?_;obtain⟨u135,u136,u137,u138,u139,u140,u141,u142,u143,u144,u145,u146,hc0,h⟩:=h
  exact ahG results22 (aa4 (af0 rfl nV rfl pB hc0) afZ) ⟨_,_,_,_,_,_,_,_,_,_,_,_,rfl,h⟩
 refine AW.seqJ (fun fr I=> ∃(u147:Bool),qg [(0,.pointer a0),(3,.pointer (some ⟨u0,0,none⟩)),(4,.pointer (some ⟨u1,0,none⟩)),(35,.bool u147)] fr/\zJ B ro a0 u0 u1 Q u147 I) ?_ ?_
 rotate_left
 .refine zi h (fun h=>?_) fun h=>?_
  .refine zw ?_;exact⟨_,FL,h⟩
  refine zi h (fun h=>?_) fun h=>?_
  .refine zw ?_;exact⟨_,FL,h⟩
  refine zi h (fun h=>?_) fun h=>?_
  .refine zw ?_;exact⟨_,FL,h⟩
  refine zi h (fun h=>?_) fun h=>?_
  .refine zw ?_;exact⟨_,FL,h⟩
  refine zw ?_;exact⟨_,FL,h⟩
 rintro fr I ⟨u147,hl,h⟩;refine AW.weaken ?_ hl (HLe.refl _)
 unfold zJ at h;refine zj h (fun h=>?_) fun h=>?_
 rotate_left
 .refine zc func72 h ?_;rintro v I ⟨u148,u149,u150,u151,u152,u153,u154,u155,u156,u157,u158,u159,rfl,h⟩;refine zsp pB h fun I h=>?_;obtain⟨u160,u161,u162,u163,u164,u165,u166,u167,u168,u169,u170,u171,hc0,h⟩:=h
  exact ahG results22 (aa4 (af0 rfl nV rfl pB hc0) afZ) ⟨_,_,_,_,_,_,_,_,_,_,_,_,rfl,h⟩
 refine zw ?_;obtain⟨u172,u173,u174,u175,u176,u177,u178,u179,u180,u181,u182,u183,u184,hc,h⟩:=h
 refine zl (jz rfl nP rfl ake rfl hc ?_)
 refine zc func75 h ?_;rintro v I ⟨u185,u186,u187,u188,u189,u190,u191,u192,u193,u194,u195,u196,rfl,h⟩;refine zsp pB h fun I h=>?_;obtain⟨u197,u198,u199,u200,u201,u202,u203,u204,u205,u206,u207,u208,hc0,h⟩:=h
 exact ahG results22 (aa4 (af0 rfl nV rfl pB hc0) afZ) ⟨_,_,_,_,_,_,_,_,_,_,_,_,rfl,h⟩
def aao(B:World)(ro:AH)(a0:Option Addr)(I:AH)(Q:Sl->AH->Prop):=
 jl B ro I fun u0 I=>
 ∃p1,a0=some p1/\
 ∃p2,a0=some p2/\
 ∃u3,qb ro I p1=some (.int .i64 u3)/\
 ∃u4,qb ro I (p2.add 1)=some (Sl.v u4)/\
 nw ro I (.cells #[.int .i64 u3,.int .i64 (u4.len:Int)] 3) fun u5 I=>
 qX B ro u0 (⟨some ⟨u5,0,none⟩,2,2⟩:Sl) I fun I=>
 ∃p6,a0=some p6/\
 ∃u7,qb ro I (p6.add 1)=some (Sl.v u7)/\
 qX B ro u0 u7 I fun I=>
 uS I fun ψ I=>
 ∃p8,a0=some p8/\
 ∃p9,a0=some p9/\
 ∃u10,qb (join ro ψ) (fun _=>none) (p9.add 3)=some (.pointer u10)/\
 ∃p11,a0=some p11/\
 ∃u12,qb (join ro ψ) (fun _=>none) (p11.add 4)=some (.pointer u12)/\
 ∃u13,qb (join ro ψ) I (p8.add 2)=some (.pointer u13)/\
 aaL B (join ro ψ) u13 I fun u14 I=>
 ua B (join ro ψ) u10 I fun u15 I=>
 abq B (join ro ψ) u12 I fun u16 I=>
 nw (join ro ψ) I (.cells #[Sl.v u14,Sl.v u15,Sl.v u16] 24) fun u17 I=>
 vo B (join ro ψ) u0 (⟨some ⟨u17,0,none⟩,3,3⟩:Sl) I fun I=>
 (qI ψ I->(fun I=>
  xT B ro u0 I fun u18 u19 I=>
  Q u18 I) (join ψ I))
theorem agp{a0 Q}(h:Sep ro I->aao B ro a0 I Q):uZ B ro a0 I Q:=by
 refine zb h func40 ntmps40 fun h=>?_;unfold aao at h;refine zC func43 h fun u0 I h=>?_;refine AW.seq ?_;refine AW.drawn0 (fun i=>([0,0,0,0,0,3,0,0,0,0,3,0,1,2]:List Nat).getD i 2) [(5,12),(5,13),(10,11),(10,12),(10,13)] [0,1,2,3,4,6,7,8,9,5,10,11,12,13] mixed j0 ?_
 refine zM h fun p1 h=>?_;refine zg ny aeM ?_;refine zg Lu ty3 ?_;refine zM h fun p2 h=>?_;refine zg ny aeM ?_;refine zg Lu akd ?_;refine zR mj h fun u3 h=>?_;refine zR mx h fun u4 h=>?_;refine Dp rfl rfl rfl rfl (qD rfl rfl mx rfl rfl) ?_
 refine Da rfl rfl rfl rfl (wS (vs:=[(0,.int .i64 u3),(1,.int .i64 (u4.len:Int))]) (cs:= #[.int .i64 u3,.int .i64 (u4.len:Int)]) rfl mx ty3 z8 rfl rfl) fun u5 g1 g2=>?_
 replace h:=h u5 g1 g2
 refine zG func44 h ?_;rintro v I ⟨rfl,h⟩;refine vn ?_
 refine zN h fun p6 h=>?_;refine zf ny aeM ?_;refine zf Lu akd ?_;refine zL mx h fun u7 h=>?_;refine zc func44 h ?_;rintro v I ⟨rfl,h⟩;refine zw ?_;refine AW.seq ?_;refine AW.drawnL (fun i=>([0,0,0,0,3,2,0,0,0,0,2,0,0,0,0,2,1,2]:List Nat).getD i 2) [(4,5),(4,10),(4,15),(4,16),(4,17),(5,10),(5,15),(5,16),(5,17),(10,16),(10,17)] [0,1,2,3,6,7,8,9,11,12,13,14,4,5,10,15,16,17] mixed h j0 ?_
 clear h
 intro ψ I h
 refine zM h fun p8 h=>?_;refine zg ny aiR ?_;refine zM h fun p9 h=>?_;refine zg ny agH ?_;refine zS Pb h fun u10 h=>?_;refine zM h fun p11 h=>?_;refine zg ny alE ?_;refine zS underlying151 h fun u12 h=>?_;refine zR Ph h fun u13 h=>?_;refine zG func78 h ?_;rintro v I ⟨u14,rfl,h⟩;refine zG func106 h ?_;rintro v I ⟨u15,rfl,h⟩
 refine zG func107 h ?_;rintro v I ⟨u16,rfl,h⟩;refine Da rfl rfl rfl rfl (wS (vs:=[(0,Sl.v u14),(1,Sl.v u15),(2,Sl.v u16)]) (cs:= #[Sl.v u14,Sl.v u15,Sl.v u16]) rfl Lr wq z8 rfl rfl) fun u17 g1 g2=>?_
 replace h:=h u17 g1 g2
 refine zG func46 h ?_;rintro v I ⟨rfl,h⟩;refine⟨_,zz.refl _,fun hdj=>?_⟩
 replace h:=h hdj
 refine zc func47 h ?_;rintro v I ⟨u18,u19,rfl,h⟩;exact zr h
def aap(B:World)(ro:AH)(u0:Nat)(Q:Option Addr->Int->AH->Prop)(I:AH):=
 Q (some ⟨u0,0,none⟩) 0 I
def jt(B:World)(ro:AH)(u0:Nat)(u1:Sl)(Q:Option Addr->Int->AH->Prop):Int->AH->(Int->AH->Prop)->Prop:=fun u2 I Y22=>
 if u2<(u1.len:Int)then
 ∃p3,u1.a=some p3/\(0:Int)<=u2/\u2<(u1.len:Int)/\
 ∃u4 u5,qB ro I (p3.add (Int.toNat u2*2)) 0 [.string u4,.int .i64 u5]/\
 nw ro I (.cells #[.string ByteArray.empty,.int .i64 0] 81) fun u6 I=>
 stN ⟨u6,0,none⟩ (fun I=>
  ∃u7,qb ro I ((⟨u0,0,none⟩:Addr).add 2)=some (.pointer u7)/\
  ∃u8,qb ro I ⟨u6,0,none⟩=some (.string u8)/\
  (⟨#[47]⟩:ByteArray).size+u8.size<=9223372036854775807/\
  jk B ro u7 ((⟨#[47]⟩:ByteArray)++u8) I fun u9 u10 u11 u12 u13 u14 I=>
  nw ro I (.cells #[.int .i64 0,.int .i64 0,.int .i64 0,.int .i64 0] 26) fun u15 I=>
  stN ⟨u15,0,none⟩ (fun I=>
  if¬(u14=0)then
   Q none 13 I
  else
  Y22 (i64.wrap (u2+1)) I) [.int .i64 u10,.int .i64 u11,.int .i64 u12,.int .i64 u13] 0 I) [.string u4,.int .i64 u5] 0 I
 else
 aap B ro u0 Q I
def kQ(B:World)(ro:AH)(u0:Nat)(Q:Option Addr->Int->AH->Prop)(u1:Bool)(I:AH):=
 if u1=true then
 Q none 13 I
 else
 ∃u2,qb ro I ((⟨u0,0,none⟩:Addr).add 3)=some (.pointer u2)/\
 aaa B ro u2 (⟨none,0,0⟩:Sl) I fun u3 I=>
 lfpD (jt B ro u0 u3 Q) (0) I
def wG(B:World)(ro:AH)(u0:Nat)(u1 u2 u3:Int)(Q:Option Addr->Int->AH->Prop)(u4:Bool)(I:AH):=
 if(((u4=true)\/(¬(u1=0)))\/(¬(u2=0)))\/(¬(u3=0))then
 kQ B ro u0 Q true I
 else
 ∃u5,qb ro I ((⟨u0,0,none⟩:Addr).add 1)=some (Sl.v u5)/\
 xx B ro u5 I fun u6 I=>
 kQ B ro u0 Q (!u6) I
def adF(B:World)(ro:AH)(a0:Sl)(I:AH)(Q:Option Addr->Int->AH->Prop):=
 jm B ro a0 I fun u0 I=>
 qt B ro u0 I fun u1 I=>
 ac1 B ro u0 I fun u2 I=>
 nw ro I (.cells #[.int .i64 u1,Sl.v u2,.pointer none,.pointer none,.pointer none] 153) fun u3 I=>
 wz B ro u0 I fun u4 I=>
 adt B ro u4 I fun u5 u6 I=>
 stN ((⟨u3,0,none⟩:Addr).add 2) (fun I=>
 wz B ro u0 I fun u7 I=>
 aab B ro u7 I fun u8 u9 I=>
 stN ((⟨u3,0,none⟩:Addr).add 3) (fun I=>
  wz B ro u0 I fun u10 I=>
  ux B ro u10 I fun u11 u12 I=>
  stN ((⟨u3,0,none⟩:Addr).add 4) (fun I=>
  wI B ro u0 I fun u13 I=>
  if¬(u13=0)then
   wG B ro u3 u6 u9 u12 Q true I
  else
  wZ B ro u0 I fun u14 I=>
  wG B ro u3 u6 u9 u12 Q (decide (0<u14)) I) [.pointer u11] 0 I) [.pointer u8] 0 I) [.pointer u5] 0 I
theorem aj1{a0 Q}(h:Sep ro I->adF B ro a0 I Q):ads B ro a0 I Q:=by
 refine zb h func41 ntmps41 fun h=>?_;unfold adF at h;refine zc func53 h ?_;rintro v I ⟨u0,rfl,h⟩;refine zc func54 h ?_;rintro v I ⟨u1,rfl,h⟩;refine zc func95 h ?_;rintro v I ⟨u2,rfl,h⟩;refine zm (wD (vs:=[(0,.int .i64 u1),(1,Sl.v u2)]) (cs:= #[.int .i64 u1,Sl.v u2]) rfl Lu aeM ard rfl rfl) ?_;refine zm (wD (vs:=[(0,.agg #[.int .i64 u1,Sl.v u2])]) (cs:= #[.int .i64 u1,Sl.v u2,.pointer none,.pointer none,.pointer none]) rfl ny ara arf rfl rfl) ?_
 refine zA (wY rfl rfl) h fun u3 h=>?_;refine zc func56 h ?_;rintro v I ⟨u4,rfl,h⟩;refine zc func77 h ?_;rintro v I ⟨u5,u6,rfl,h⟩;refine zw ?_;refine zm (qC rfl rfl) ?_;refine zf ny aiR ?_;refine zs aiR h fun I h=>?_;refine zc func56 h ?_;rintro v I ⟨u7,rfl,h⟩;refine zc func108 h ?_;rintro v I ⟨u8,u9,rfl,h⟩;refine zw ?_;refine zm (qC rfl rfl) ?_;refine zf ny agH ?_
 refine zs agH h fun I h=>?_;refine zc func56 h ?_;rintro v I ⟨u10,rfl,h⟩;refine zc func109 h ?_;rintro v I ⟨u11,u12,rfl,h⟩;refine zw ?_;refine zm (qC rfl rfl) ?_;refine zf ny alE ?_;refine zsp alE h fun I h=>?_;refine AW.seq ?_;refine zC func57 h fun u13 I h=>?_;refine qn 4 (!(decide (u13=0))) (qp mg) h (fun fr I=> ∃(u14:Bool),qg [(5,.pointer (some ⟨u3,0,none⟩)),(6,.int .i64 u6),(7,.int .i64 u9),(8,.int .i64 u12),(57,.bool u14)] fr/\wG B ro u3 u6 u9 u12 Q u14 I) ?_ ?_ ?_
 .intro h e3 hk3;refine zv e3 ?_;exact hk3 _ _ ⟨_,FL,h⟩
 .intro h e3 hk3;refine zy e3 ?_;refine Lyb rfl rfl rfl rfl e3 (wu rfl func58 rfl rfl rfl (qc.mono h ?_))
  rintro v I ⟨u15,rfl,h⟩;refine zv e3 ?_;exact hk3 _ _ ⟨_,FL,h⟩
 rintro fr I ⟨u14,hl,h⟩;unfold wG at h;refine Lfr hl ?_
 refine zw ?_;refine qx 3 u14 [(5,.pointer (some ⟨u3,0,none⟩)),(7,.int .i64 u9),(8,.int .i64 u12),(61,.bool (u14 || (!(decide (u6=0)))))] ?_ ?_ ?_
 .intro e8 hk8
  refine zv e8 ?_;exact hk8 _ (Fe e8)
 .intro e8 hk8
  refine zv e8 ?_;exact hk8 _ (Fe e8)
 intro fr hl
 refine Lfr hl ?_
 refine zw ?_;refine qx 3 (u14 || (!(decide (u6=0)))) [(5,.pointer (some ⟨u3,0,none⟩)),(8,.int .i64 u12),(65,.bool ((u14 || (!(decide (u6=0)))) || (!(decide (u9=0)))))] ?_ ?_ ?_
 .intro e12 hk12
  refine zv e12 ?_;exact hk12 _ (Fe e12)
 .intro e12 hk12
  refine zv e12 ?_;exact hk12 _ (Fe e12)
 intro fr hl
 refine Lfr hl ?_
 refine zw ?_;refine qx 3 ((u14 || (!(decide (u6=0)))) || (!(decide (u9=0)))) [(5,.pointer (some ⟨u3,0,none⟩)),(69,.bool (((u14 || (!(decide (u6=0)))) || (!(decide (u9=0)))) || (!(decide (u12=0)))))] ?_ ?_ ?_
 .intro e16 hk16
  refine zv e16 ?_;exact hk16 _ (Fe e16)
 .intro e16 hk16
  refine zv e16 ?_;exact hk16 _ (Fe e16)
 intro fr hl
 refine Lfr hl ?_
 refine zw ?_;refine qn 8 (((u14 || (!(decide (u6=0)))) || (!(decide (u9=0)))) || (!(decide (u12=0)))) (qJ (qJ (qJ Iff.rfl (qp mg)) (qp mg)) (qp mg)) h (fun fr I=> ∃(u16:Bool),qg [(5,.pointer (some ⟨u3,0,none⟩)),(78,.bool u16)] fr/\kQ B ro u3 Q u16 I) ?_ ?_ ?_
 .intro h e20 hk20;refine zv e20 ?_;exact hk20 _ _ ⟨_,FL,h⟩
 .intro h e20 hk20;refine zy e20 ?_;refine qo (qC rfl rfl) rfl rfl rfl rfl e20 ?_
  refine qo (qK rfl ny rfl aeM z8 rfl) rfl rfl rfl rfl e20 ?_
  refine qo (qK rfl Lu rfl akd z8 rfl) rfl rfl rfl rfl e20 ?_
  obtain⟨u17,hc,h⟩:=h
  refine Lyb rfl rfl rfl rfl e20 (wU rfl mx rfl rfl hc ?_)
  refine Lyb rfl rfl rfl rfl e20 (wu rfl func64 rfl rfl rfl (qc.mono h ?_))
  rintro v I ⟨u18,rfl,h⟩;refine zv e20 ?_;exact hk20 _ _ ⟨_,FL,h⟩
 rintro fr I ⟨u16,hl,h⟩;unfold kQ at h;refine Lfr hl ?_
 refine zj h (fun h=>?_) fun h=>?_
 .exact zrr h
 refine zw ?_;refine AW.seqJ (fun fr I=>qg [(5,.pointer (some ⟨u3,0,none⟩))] fr/\aap B ro u3 Q I) ?_ ?_
 .rintro fr I ⟨hl,h⟩;refine AW.weaken ?_ hl (HLe.refl _)
  unfold aap at h;exact zrr h
 refine zw ?_;refine zm (qC rfl rfl) ?_;refine zf ny agH ?_;refine zL Pb h fun u19 h=>?_;refine zc func88 h ?_;rintro v I ⟨u20,rfl,h⟩;refine zm (qD rfl rfl Le rfl rfl) ?_;refine zw ?_;refine qf.loop (fr':=[(5,.pointer (some ⟨u3,0,none⟩)),(83,Sl.v u20),(84,.int .i64 (u20.len:Int)),(85,.int .i64 0)]) ?_ FL
 refine h (fun u21 I=>qf _ _ _ _ _ _ [(5,.pointer (some ⟨u3,0,none⟩)),(83,Sl.v u20),(84,.int .i64 (u20.len:Int)),(85,.int .i64 u21)] I) ?_
 rintro u21 I Y22 hY22 h
 show AW _ _ _ _ _ _ _ _
 unfold jt at h;refine zw ?_;refine AW.seq ?_;refine zi h (fun h=>?_) fun h=>?_
 rotate_left
 .refine AW.exit ?_;refine zw ?_;refine qN ?_
  refine zw ?_;exact⟨FL,h⟩
 refine zw ?_;refine AW.seq ?_;refine zw ?_;obtain⟨p22,ha,h0,h1,h⟩:=h
 refine zm (wR rfl Le zP (ixL rfl ha) rfl h0 h1) ?_;obtain⟨u23,u24,hc,h⟩:=h
 refine zl (jz rfl mN rfl zP rfl hc ?_)
 refine zA (vw rfl zP) h fun u25 h=>?_;refine zsp zP h fun I h=>?_;refine AW.seq ?_;refine AW.drawn0 (fun i=>([0,0,0,3,0,3,0,2,0,0,0,0,1,0,2,0]:List Nat).getD i 2) [(5,6),(5,7)] [0,1,2,4,3,5,6,7,8,9,10,11,12,13,14,15] mixed j0 ?_
 refine zw ?_;refine Dp rfl rfl rfl rfl (qC rfl rfl) ?_
 refine zg ny aiR ?_;refine zg mN ty9 ?_;refine zR Ph h fun u26 h=>?_;refine zR mu h fun u27 h=>?_;obtain⟨hc,h⟩:=h
 refine Dp rfl rfl rfl rfl (aeJ rfl rfl rfl hc) ?_
 refine zG func25 h ?_;rintro v I ⟨u28,u29,u30,u31,u32,u33,rfl,h⟩;refine zw ?_;refine Da rfl rfl rfl rfl (vw rfl vb) fun u34 g1 g2=>?_
 replace h:=h u34 g1 g2
 refine zw ?_;refine Dg rfl rfl rfl rfl (aeh rfl vb rfl rfl rfl rfl (pZ h fun I h=>?_))
 refine zw ?_;refine vn ?_
 refine zw ?_;refine AW.iff rfl (qp mg) h (fun h=>?_) (fun h=>?_)
 .exact zrr h
 refine zw ?_;refine qf.head (fr':=[(5,.pointer (some ⟨u3,0,none⟩)),(83,Sl.v u20),(84,.int .i64 (u20.len:Int)),(85,.int .i64 (i64.wrap (u21+1)))]) ?_ FL
 exact hY22 _ _ h
def aaq(B:World)(ro:AH)(a0:Option Addr)(I:AH)(Q:Int->AH->Prop):=
 ∃p0,a0=some p0/\
 ∃u1,qb ro I p0=some (.int .i64 u1)/\
 Q u1 I
theorem agq{a0 Q}(h:Sep ro I->aaq B ro a0 I Q):ac0 B ro a0 I Q:=by
 refine zb h func62 ntmps62 fun h=>?_;unfold aaq at h;refine zN h fun p0 h=>?_;refine zf Lu ty3 ?_;refine zL mj h fun u1 h=>?_;exact zr h
def uf(B:World)(ro:AH)(a0:Option Addr)(I:AH)(Q:Sl->AH->Prop):=
 ∃p0,a0=some p0/\
 ∃u1,qb ro I (p0.add 1)=some (Sl.v u1)/\
 jA B ro u1 I fun u2 I=>
 Q u2 I
theorem afE{a0 Q}(h:Sep ro I->uf B ro a0 I Q):ab8 B ro a0 I Q:=by
 refine zb h func63 ntmps63 fun h=>?_;unfold uf at h;refine zN h fun p0 h=>?_;refine zf Lu akd ?_;refine zL mx h fun u1 h=>?_;refine zc func65 h ?_;rintro v I ⟨u2,rfl,h⟩;exact zr h
def xb(B:World)(ro:AH)(a0:Sl)(Q:Bool->AH->Prop)(I:AH):=
 Q ((decide (1<=(a0.len:Int))) && (decide ((a0.len:Int)<=7))) I
def wm(B:World)(ro:AH)(a0:Sl)(u0:Int)(Q:Bool->AH->Prop)(Y2:Int->AH->Prop)(u1:Bool)(I:AH):=
 if u1=true then
 Q false I
 else
 Y2 (i64.wrap (u0+1)) I
def wE(B:World)(ro:AH)(a0:Sl)(u0 u1:Int)(Q:Bool->AH->Prop)(Y2:Int->AH->Prop)(u2:Bool)(I:AH):=
 wm B ro a0 u0 Q Y2 u2 I
def qW(B:World)(ro:AH)(a0:Sl)(Q:Bool->AH->Prop):Int->AH->(Int->AH->Prop)->Prop:=fun u0 I Y2=>
 if u0<(a0.len:Int)then
 ∃p1,a0.a=some p1/\(0:Int)<=u0/\u0<(a0.len:Int)/\
 ∃u2,qb ro I (p1.add (Int.toNat u0*1))=some (.int .i64 u2)/\
 if(u2<0)\/(31<u2)then
  wm B ro a0 u0 Q Y2 true I
 else
 if 0<u0 then
  ∃p3,a0.a=some p3/\(0:Int)<=(i64.wrap (u0 - 1))/\(i64.wrap (u0 - 1))<(a0.len:Int)/\
  ∃u4,qb ro I (p3.add (Int.toNat (i64.wrap (u0 - 1))*1))=some (.int .i64 u4)/\
  wE B ro a0 u0 u2 Q Y2 (decide (u2<=u4)) I
 else
 wE B ro a0 u0 u2 Q Y2 false I
 else
 xb B ro a0 Q I
def yA(B:World)(ro:AH)(a0:Sl)(I:AH)(Q:Bool->AH->Prop):=
 lfpD (qW B ro a0 Q) (0) I
theorem acO{a0 Q}(h:Sep ro I->yA B ro a0 I Q):xx B ro a0 I Q:=by
 refine zb h func64 ntmps64 fun h=>?_;unfold yA at h;refine zw ?_;refine AW.seqJ (fun fr I=>qg [(0,Sl.v a0)] fr/\xb B ro a0 Q I) ?_ ?_
 .rintro fr I ⟨hl,h⟩;refine AW.weaken ?_ hl (HLe.refl _)
  unfold xb at h;refine zw ?_;refine zm (qD rfl rfl mx rfl rfl) ?_;refine zw ?_;refine qx 4 (decide (1<=(a0.len:Int))) [(39,.bool ((decide (1<=(a0.len:Int))) && (decide ((a0.len:Int)<=7))))] ?_ ?_ ?_
  .intro e3 hk3
   refine zy e3 ?_;refine qo (qD rfl rfl mx rfl rfl) rfl rfl rfl rfl e3 ?_
   refine zv e3 ?_;exact hk3 _ (Fe e3)
  .intro e3 hk3
   refine zv e3 ?_;exact hk3 _ (Fe e3)
  intro fr hl
  refine Lfr hl ?_
  exact zr h
 refine zw ?_;refine zm (qD rfl rfl mx rfl rfl) ?_;refine zw ?_;refine qf.loop (fr':=[(0,Sl.v a0),(5,Sl.v a0),(6,.int .i64 (a0.len:Int)),(7,.int .i64 0)]) ?_ FL
 refine h (fun u0 I=>qf _ _ _ _ _ _ [(0,Sl.v a0),(5,Sl.v a0),(6,.int .i64 (a0.len:Int)),(7,.int .i64 u0)] I) ?_
 rintro u0 I Y2 hY2 h
 show AW _ _ _ _ _ _ _ _
 unfold qW at h;refine zw ?_;refine AW.seq ?_;refine zi h (fun h=>?_) fun h=>?_
 rotate_left
 .refine AW.exit ?_;refine zw ?_;refine qN ?_
  refine zw ?_;exact⟨FL,h⟩
 refine zw ?_;refine AW.seq ?_;refine zw ?_;obtain⟨p1,ha,h0,h1,h⟩:=h
 refine zm (wR rfl mx ty3 (ixL rfl ha) rfl h0 h1) ?_;refine zLp mj h fun u2 h=>?_;refine qx 3 (decide (u2<0)) [(0,Sl.v a0),(3,.int .i64 u0),(4,.int .i64 u2),(5,Sl.v a0),(6,.int .i64 (a0.len:Int)),(7,.int .i64 u0),(17,.bool ((decide (u2<0)) || (decide (31<u2))))] ?_ ?_ ?_
 .intro e2 hk2
  refine zv e2 ?_;exact hk2 _ (Fe e2)
 .intro e2 hk2
  refine zv e2 ?_;exact hk2 _ (Fe e2)
 intro fr hl
 refine Lfr hl ?_
 refine zw ?_;refine qn 12 ((decide (u2<0)) || (decide (31<u2))) (qJ mg mg) h (fun fr I=> ∃(u3:Bool),qg [(0,Sl.v a0),(5,Sl.v a0),(6,.int .i64 (a0.len:Int)),(7,.int .i64 u0),(30,.bool u3)] fr/\wm B ro a0 u0 Q Y2 u3 I) ?_ ?_ ?_
 .intro h e6 hk6;refine zv e6 ?_;refine Ln rfl rfl rfl rfl (.inr rfl) ?_
  refine Ln rfl rfl rfl rfl (.inr rfl) ?_
  refine Ln rfl rfl rfl rfl (.inr rfl) ?_
  refine Ln rfl rfl rfl rfl (.inr rfl) ?_
  refine Ln rfl rfl rfl rfl (.inr rfl) ?_
  refine Ln rfl rfl rfl rfl (.inr rfl) ?_
  refine Ln rfl rfl rfl rfl (.inr rfl) ?_
  refine zv e6 ?_;exact hk6 _ _ ⟨_,FL,h⟩
 .intro h e6 hk6;refine zv e6 ?_;refine qn 8 (decide (0<u0)) mg h (fun fr I=> ∃(u4:Bool),qg [(0,Sl.v a0),(5,Sl.v a0),(6,.int .i64 (a0.len:Int)),(7,.int .i64 u0),(18,.bool ((decide (u2<0)) || (decide (31<u2)))),(29,.bool u4)] fr/\wE B ro a0 u0 u2 Q Y2 u4 I) ?_ ?_ ?_
  .intro h e9 hk9;refine zv e9 ?_;obtain⟨p5,ha,h0,h1,h⟩:=h
   refine qo (wR rfl mx ty3 (ixL rfl ha) rfl h0 h1) rfl rfl rfl rfl e9 ?_
   obtain⟨u6,hc,h⟩:=h
   refine Lyb rfl rfl rfl rfl e9 (wU rfl mj rfl rfl hc ?_)
   refine zy e9 ?_;refine qo (qT rfl (evb e9) rfl) rfl rfl rfl rfl e6 ?_
   exact hk9 _ _ ⟨_,FL,h⟩
  .intro h e9 hk9;refine zv e9 ?_;refine qo (wL rfl (evb e9) rfl) rfl rfl rfl rfl e6 ?_
   exact hk9 _ _ ⟨_,FL,h⟩
  rintro fr I ⟨u4,hl,h⟩;unfold wE at h;refine Lfr hl ?_
  refine zk e6 ?_;exact hk6 _ _ ⟨_,FL,h⟩
 rintro fr I ⟨u3,hl,h⟩;unfold wm at h;refine Lfr hl ?_
 refine zj h (fun h=>?_) fun h=>?_
 .exact zr h
 refine zw ?_;refine qf.head (fr':=[(0,Sl.v a0),(5,Sl.v a0),(6,.int .i64 (a0.len:Int)),(7,.int .i64 (i64.wrap (u0+1)))]) ?_ FL
 exact hY2 _ _ h
def xL(B:World)(ro:AH)(u0:Nat)(u1:Int)(Q:Int->Int->Sl->Int->Sl->Int->Int->Int->Int->Sl->Sl->Int->AH->Prop)(I:AH):=
 stN ⟨u0,0,none⟩ (fun I=>
 ∃u2 u3 u4 u5 u6 u7 u8 u9 u10 u11 u12 u13,qB ro I ⟨u0,0,none⟩ 0 [.int .i64 u2,.int .i64 u3,Sl.v u4,.int .i64 u5,Sl.v u6,.int .i64 u7,.int .i64 u8,.int .i64 u9,.int .i64 u10,Sl.v u11,Sl.v u12,.int .i64 u13]/\
 Q u2 u3 u4 u5 u6 u7 u8 u9 u10 u11 u12 u13 I) [.int .i64 0,.int .i64 u1,Sl.v (⟨none,0,0⟩:Sl),.int .i64 0,Sl.v (⟨none,0,0⟩:Sl),.int .i64 0,.int .i64 0,.int .i64 0,.int .i64 0,Sl.v (⟨none,0,0⟩:Sl),Sl.v (⟨none,0,0⟩:Sl),.int .i64 0] 0 I
def abF(B:World)(ro:AH)(a0:Option Addr)(a1_0:Int)(a1_1:ByteArray)(a1_2 a1_3 a1_4 a1_5 a1_6 a1_7:Int)(a1_8:Sl)(a1_9:ByteArray)(a1_10:Bool)(a1_11:Int)(a1_12:Sl)(I:AH)(Q:Int->Int->Sl->Int->Sl->Int->Int->Int->Int->Sl->Sl->Int->AH->Prop):=
 nw ro I (.cells #[.int .i64 a1_0,.string a1_1,.int .i64 a1_2,.int .i64 a1_3,.int .i64 a1_4,.int .i64 a1_5,.int .i64 a1_6,.int .i64 a1_7,Sl.v a1_8,.string a1_9,.bool a1_10,.int .i64 a1_11,Sl.v a1_12] 57) fun u0 I=>
 nw ro I (.cells #[.int .i64 0,.int .i64 0,Sl.v (⟨none,0,0⟩:Sl),.int .i64 0,Sl.v (⟨none,0,0⟩:Sl),.int .i64 0,.int .i64 0,.int .i64 0,.int .i64 0,Sl.v (⟨none,0,0⟩:Sl),Sl.v (⟨none,0,0⟩:Sl),.int .i64 0] 30) fun u1 I=>
 ∃u2,qb ro I ((⟨u0,0,none⟩:Addr).add 1)=some (.string u2)/\
 (⟨#[47]⟩:ByteArray).size+u2.size<=9223372036854775807/\
 ∃p3,a0=some p3/\
 ∃u4,qb ro I (p3.add 2)=some (.pointer u4)/\
 jk B ro u4 ((⟨#[47]⟩:ByteArray)++u2) I fun u5 u6 u7 u8 u9 u10 I=>
 nw ro I (.cells #[.int .i64 0,.int .i64 0,.int .i64 0,.int .i64 0] 26) fun u11 I=>
 stN ⟨u11,0,none⟩ (fun I=>
 ∃u12,qb ro I ((⟨u0,0,none⟩:Addr).add 1)=some (.string u12)/\
 yH B ro u12 I fun u13 I=>
 ∃p14,a0=some p14/\
 ∃u15,qb ro I (p14.add 3)=some (.pointer u15)/\
 ∃u16,qb ro I ((⟨u0,0,none⟩:Addr).add 1)=some (.string u16)/\
 ∃u17,qb ro I ((⟨u0,0,none⟩:Addr).add 4)=some (.int .i64 u17)/\
 ∃u18,qb ro I ((⟨u0,0,none⟩:Addr).add 5)=some (.int .i64 u18)/\
 aac B ro u15 u16 u17 u18 I fun u19 u20 u21 I=>
 if¬(u21=0)then
  aej B ro u21 I fun u22 u23 u24 u25 u26 u27 u28 u29 u30 u31 u32 u33 I=>
  stN ⟨u1,0,none⟩ (fun I=>
  ∃u34 u35 u36 u37 u38 u39 u40 u41 u42 u43 u44 u45,qB ro I ⟨u1,0,none⟩ 0 [.int .i64 u34,.int .i64 u35,Sl.v u36,.int .i64 u37,Sl.v u38,.int .i64 u39,.int .i64 u40,.int .i64 u41,.int .i64 u42,Sl.v u43,Sl.v u44,.int .i64 u45]/\
  Q u34 u35 u36 u37 u38 u39 u40 u41 u42 u43 u44 u45 I) [.int .i64 u22,.int .i64 u23,Sl.v u24,.int .i64 u25,Sl.v u26,.int .i64 u27,.int .i64 u28,.int .i64 u29,.int .i64 u30,Sl.v u31,Sl.v u32,.int .i64 u33] 0 I
 else
 if(u13=true)/\(u10=70)then
  ∃p46,a0=some p46/\
  ∃u47,qb ro I (p46.add 2)=some (.pointer u47)/\
  aaM B ro u47 ((⟨#[47]⟩:ByteArray)++u2) (⟨none,0,0⟩:Sl) 0 false I fun u48 u49 I=>
  xL B ro u1 u19 Q I
 else
 xL B ro u1 u19 Q I) [.int .i64 u6,.int .i64 u7,.int .i64 u8,.int .i64 u9] 0 I
theorem ahv{a0 a1_0 a1_1 a1_2 a1_3 a1_4 a1_5 a1_6 a1_7 a1_8 a1_9 a1_10 a1_11 a1_12 Q}(h:Sep ro I->abF B ro a0 a1_0 a1_1 a1_2 a1_3 a1_4 a1_5 a1_6 a1_7 a1_8 a1_9 a1_10 a1_11 a1_12 I Q):abo B ro a0 a1_0 a1_1 a1_2 a1_3 a1_4 a1_5 a1_6 a1_7 a1_8 a1_9 a1_10 a1_11 a1_12 I Q:=by
 refine zb h func69 ntmps69 fun h=>?_;unfold abF at h;refine zw ?_;refine zA (wY rfl rfl) h fun u0 h=>?_;refine zA (vw rfl pB) h fun u1 h=>?_;refine zf nP ty9 ?_;refine zL mu h fun u2 h=>?_;obtain⟨hc,h⟩:=h
 refine zm (aeJ rfl rfl rfl hc) ?_;refine zN h fun p3 h=>?_;refine zf ny aiR ?_;refine zL Ph h fun u4 h=>?_;refine zc func25 h ?_;rintro v I ⟨u5,u6,u7,u8,u9,u10,rfl,h⟩;refine zw ?_;refine zA (vw rfl vb) h fun u11 h=>?_;refine zs vb h fun I h=>?_;refine zf nP ty9 ?_;refine zL mu h fun u12 h=>?_;refine zC func99 h fun u13 I h=>?_
 refine qx 3 u13 [(0,.pointer a0),(3,.pointer (some ⟨u0,0,none⟩)),(4,.pointer (some ⟨u1,0,none⟩)),(5,.string ((⟨#[47]⟩:ByteArray)++u2)),(31,.bool (u13 && (decide (u10=70))))] ?_ ?_ ?_
 .intro e3 hk3
  refine zv e3 ?_;exact hk3 _ (Fe e3)
 .intro e3 hk3
  refine zv e3 ?_;exact hk3 _ (Fe e3)
 intro fr hl
 refine Lfr hl ?_
 refine zw ?_;refine AW.seq ?_;refine AW.drawn0 (fun i=>([0,0,0,3,0,3,0,3,0,3,2,0,0,0,0,0,0,0]:List Nat).getD i 2) [] [0,1,2,4,6,8,3,5,7,9,10,11,12,13,14,15,16,17] mixed j0 ?_
 refine zM h fun p14 h=>?_;refine zg ny agH ?_;refine zg nP ty9 ?_;refine zg nP ty3 ?_;refine zg nP ty3 ?_;refine zR Pb h fun u15 h=>?_;refine zR mu h fun u16 h=>?_;refine zR mj h fun u17 h=>?_;refine zR mj h fun u18 h=>?_;refine zG func121 h ?_;rintro v I ⟨u19,u20,u21,rfl,h⟩;refine zw ?_;refine vn ?_
 refine zw ?_;refine AW.seq ?_;refine zw ?_;refine AW.iff rfl (qp mg) h (fun h=>?_) (fun h=>?_)
 .refine zc func72 h ?_;rintro v I ⟨u22,u23,u24,u25,u26,u27,u28,u29,u30,u31,u32,u33,rfl,h⟩;refine zsp pB h fun I h=>?_;obtain⟨u34,u35,u36,u37,u38,u39,u40,u41,u42,u43,u44,u45,hc0,h⟩:=h
  exact ahG results69 (aa4 (af0 rfl nV rfl pB hc0) afZ) ⟨_,_,_,_,_,_,_,_,_,_,_,_,rfl,h⟩
 refine zw ?_;refine AW.seqJ (fun fr I=>qg [(4,.pointer (some ⟨u1,0,none⟩)),(10,.int .i64 u19)] fr/\xL B ro u1 u19 Q I) ?_ ?_
 rotate_left
 .refine zw ?_;refine AW.iff rfl (xv Iff.rfl mg) h (fun h=>?_) (fun h=>?_)
  rotate_left
  .refine zw ?_;exact⟨FL,h⟩
  refine zN h fun p46 h=>?_;refine zf ny aiR ?_;refine zL Ph h fun u47 h=>?_;refine zc func122 h ?_;rintro v I ⟨u48,u49,rfl,h⟩;refine zw ?_;exact⟨FL,h⟩
 rintro fr I ⟨hl,h⟩;refine AW.weaken ?_ hl (HLe.refl _)
 unfold xL at h;refine zw ?_;refine zm (wD (vs:=[(1,.int .i64 u19)]) (cs:= #[.int .i64 0,.int .i64 u19,Sl.v (⟨none,0,0⟩:Sl),.int .i64 0,Sl.v (⟨none,0,0⟩:Sl),.int .i64 0,.int .i64 0,.int .i64 0,.int .i64 0,Sl.v (⟨none,0,0⟩:Sl),Sl.v (⟨none,0,0⟩:Sl),.int .i64 0]) rfl nV pB asg rfl y0) ?_;refine zsp pB h fun I h=>?_;obtain⟨u50,u51,u52,u53,u54,u55,u56,u57,u58,u59,u60,u61,hc0,h⟩:=h
 exact ahG results69 (aa4 (af0 rfl nV rfl pB hc0) afZ) ⟨_,_,_,_,_,_,_,_,_,_,_,_,rfl,h⟩