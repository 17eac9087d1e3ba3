import Derived.Test.YtomdigihapdhnaaGreatDoorXM
set_option linter.all false
set_option maxRecDepth 99999
set_option maxHeartbeats 0
open Go.IntKind(i64)
open Go.Proofs.Tryz
namespace Go.Proofs.YtomdigihapdhnaaGreatDoor
namespace SL
open Go
variable{I φ ψ:AH}{Q:Exit->Fr->AH->Prop}{fr:Fr}{i id:Nat}{cl:Nat->Nat}
section
variable{P:Program}{B:World}{ro:AH}{N:Nat}{ops:Array Oper}
theorem amK{K K':Fr->AH->Prop}(h:∀ fr I,js B ro I->K fr I->K' fr I):∀ (l:List Nat) {fr:Fr} {I:AH},js B ro I->wj P B ro N ops cl K l fr I->wj P B ro N ops cl K' l fr I
 | [],_,_,hl,hd=>h _ _ hl hd
 | x::l,_,_,hl,hd=>D1.mono hl (fun _ _ hl' hx=>amK h l hl' hx) hd
theorem alv{K:Fr->AH->Prop}:∀ (l:List Nat),wj P B ro N ops cl K (l++[i])=wj P B ro N ops cl (D1 P B ro N ops cl i K) l
 | []=>rfl
 | x::l=>by
  funext fr I
  show D1 P B ro N ops cl x (wj P B ro N ops cl K (l++[i])) fr I=_
  rw[alv l];try rfl
theorem vR.more{o:Oper}{u:Value}(h:vR P ro adF ops o fr u):vR P (join ro ψ) adF ops o fr u:=by
 have key:∀ {α:Type} (s:Sem α) (a:α),qf P ro s adF=some a->qf P (join ro ψ) s adF=some a:=by
  intro α s
  induction s with
  | pure x=>intro a h;exact h
  | load m x k ih=>
   intro a h
   simp only[qf]at h⊢
   cases hc:qa ro adF x with
   | none=>rw[hc]at h;cases h
   | some v=>
    rw[hc]at h
    have:qa (join ro ψ) adF x=some v:=by
     unfold qa rd at hc⊢
     cases e:ro x.block with
     | none=>rw[e]at hc;simp[vy]at hc
     | some o=>rw[e]at hc;rw[kU e];exact hc
    rw[this];exact ih v a h
  | program k ih=>intro a h;exact ih _ a h
  | mark m k ih=>intro a h;exact ih a h
  | _=>intro a h;cases h
 unfold vR at h⊢
 split at h
 .exact fun ρ hρ=>key _ _ (h ρ hρ)
 .obtain⟨t,v,h1,h2,h3⟩:=h
  exact⟨t,v,h1,h2,h3.imp (fun⟨a,b⟩=>⟨a,fun ρ hρ=>key _ _ (b ρ hρ)⟩) id⟩
def ahh(P:Program)(B:World)(ro ψ:AH)(N:Nat)(ops:Array Oper)(cl:Nat->Nat)(Q:Fr->AH->Prop)(l2:List Nat):Fr->AH->Prop:=fun fr I=> ∃fr',zr fr' fr/\(qP ψ I->wj P B ro N ops cl Q l2 fr' (join ψ I))
theorem apH{w:World}(hp:∀ b o,ψ b=some o->φ b=none/\ro b=none)(h:Own B (join ro ψ) φ I w):qP ψ I/\js B ro (join ψ I):=by
 obtain⟨g1,g2⟩:=h.unlend hp
 exact⟨g2,φ,w,g1⟩
theorem apI(hr:qP ψ ro)(h:js B (join ro ψ) I):qP ψ I/\js B ro (join ψ I):=by
 obtain⟨φ,w,h⟩:=h
 have h':Own B (join ro ψ) (fun _=>none) I w:=⟨h.os,h.tape,h.output,fun b o hs=>⟨(h.own b o hs).1,rfl,(h.own b o hs).2.2⟩,(fun _ _ e=>by cases e),h.ro⟩
 exact apH (fun b o hb=>⟨rfl,hr b o hb⟩) h'
theorem atV{Q:Fr->AH->Prop}(hK:aaR Q)(hr:qP ψ ro)(h0:cl i=0){l1 pre post:List Nat}(hs1:∀ x∈l1,aaS ops cl x i=true)(hs2:∀ x∈pre,aaS ops cl x i=true)(hl:js B (join ro ψ) I)
  (h:wj P B (join ro ψ) N ops cl (ahh P B ro ψ N ops cl Q (pre++i::post)) l1 fr I):D1 P B (join ro ψ) N ops cl i (wj P B (join ro ψ) N ops cl (ahh P B ro ψ N ops cl Q (pre++post)) l1) fr I:=by
 have hC:∀ l,aaR (ahh P B ro ψ N ops cl Q l):=fun l fr fr' I he ⟨fr2,h1,h2⟩=>⟨fr2,fun i=>(h1 i).trans (he i),h2⟩
 have h1:wj P B (join ro ψ) N ops cl (D1 P B (join ro ψ) N ops cl i (ahh P B ro ψ N ops cl Q (pre++post))) l1 fr I:=by
  refine amK ?_ l1 hl h
  rintro fr I hl ⟨fr',he,hd⟩
  obtain⟨g1,g2⟩:=apI hr hl
  have hx:=adt (P:=P) (B:=B) (N:=N) hK post pre hs2 g2 (hd g1)
  show D1 P B (join ro ψ) N ops cl i _ fr I
  unfold wj D1 at hx
  unfold D1
  cases ho:ops[i]? with
  | none=>rw[ho]at hx;exact hx
  | some o=>
   rw[ho]at hx
   simp only[h0]at hx⊢
   obtain⟨k1,u,k2,k3⟩:=hx
   exact⟨k1,u,(k2.eq he).more,qG o.dst u fr',he.put _ _,fun _=>k3⟩
 rw[<-alv]at h1
 have:=adt (P:=P) (B:=B) (N:=N) (hC (pre++post)) [] l1 hs1 hl h1
 rw[List.append_nil]at this
 exact this
theorem amL{anc:List (Nat×Nat)}(ha:agA ops anc=true)(hlt:∀ i,∀e∈wv ops i,e<i)(hK:aaR (Q .normal))
  (hp:∀ b o,ψ b=some o->φ b=none/\ro b=none):
  ∀(m:Nat) (l1 l2:List Nat) (listed:Array Bool) {fr:Fr} {I:AH} {a:Act} {w:World},l1.length+l2.length=m->listed.size=ops.size->chk ops cl anc (l1++l2)=true->(∀j∈l2,cl j=0\/∀ i∈l1,i∈wv ops j\/(i,j)∈anc)->
   (∀i,i<ops.size->(listed.getD i true=false↔i∈l1++l2))->(∀i,i<ops.size->i∉l1++l2->∀ e∈wv ops i,e∉l1++l2)->
   wj P B (join ro ψ) N ops cl (ahh P B ro ψ N ops cl (Q .normal) l2) l1 fr I->Own B (join ro ψ) φ I w->xa N fr a->wpAny P .any ops (agw B ro N φ Q) m listed a w:=by
 have hC:∀ l,aaR (ahh P B ro ψ N ops cl (Q .normal) l):=fun l fr fr' I he ⟨fr2,h1,h2⟩=>⟨fr2,fun i=>(h1 i).trans (he i),h2⟩
 have nil:∀ (m:Nat) (l2:List Nat) (listed:Array Bool) {fr:Fr} {I:AH} {a:Act} {w:World},l2.length=m->listed.size=ops.size->chk ops cl anc l2=true->(∀i,i<ops.size->(listed.getD i true=false↔i∈l2))->(∀i,i<ops.size->i∉l2->∀ e∈wv ops i,e∉l2)->
   ahh P B ro ψ N ops cl (Q .normal) l2 fr I->Own B (join ro ψ) φ I w->xa N fr a->wpAny P .any ops (agw B ro N φ Q) m listed a w:=by
  intro m l2 listed fr I a w hn hsz hc hli hcl h ho hf
  obtain⟨fr',he,hd⟩:=h
  obtain⟨g1,g2⟩:=ho.unlend hp
  exact abO ha hlt hK m l2 listed hn hsz hc hli hcl (hd g2) g1 ⟨hf.size,hf.defers,fun i v hi=>hf.has i v (by rw[<-he i];exact hi)⟩
 intro m
 induction m with
 | zero=>
  intro l1 l2 listed fr I a w hn hsz hc haft hli hcl h ho hf
  obtain rfl:l1=[]:=List.length_eq_zero_iff.1 (by omega)
  exact nil 0 l2 listed (by simpa using hn) hsz hc hli hcl h ho hf
 | succ m ih=>
  intro l1 l2 listed fr I a w hn hsz hc haft hli hcl h ho hf
  by_cases hnil:l1=[]
  .subst hnil
   exact nil (m+1) l2 listed (by simpa using hn) hsz hc hli hcl h ho hf
  obtain⟨l,hl⟩:∃ l,l=l1++l2:=⟨_,rfl⟩
  rw[<-hl]at hc hli hcl
  have hlist:∀ e,e<ops.size->e∉l->listed.getD e false=true:=by
   intro e he hne
   have h1:¬ listed.getD e true=false:=fun q=>hne ((hli e he).1 q)
   have hlt':e<listed.size:=by omega
   simp only[Array.getD_eq_getD_getElem?,Array.getElem?_eq_getElem hlt',Option.getD_some]at h1⊢
   simpa using h1
  refine⟨?_,?_⟩
  .intro hr
   exfalso
   cases l with
   | nil=>have:=congrArg List.length hl;simp at this;omega
   | cons x rest=>
    have hx:=adY hc x (List.mem_cons_self ..)
    have:x∈Region.ready .any ops listed:=by
     refine adX.2 ⟨hx.1,(hli x hx.1).2 (List.mem_cons_self ..),ops[x],by simp[hx.1],?_⟩
     intro e he
     have he':e∈wv ops x:=by simp[wv,hx.1];exact he
     simp only[chk,Bool.and_eq_true]at hc
     have h1:=List.all_eq_true.1 hc.1.1.1.1 e he'
     simp only[Bool.and_eq_true,decide_eq_true_eq,Bool.not_eq_true',List.contains_iff_mem,<-Bool.not_eq_true]at h1
     exact hlist e (by have:=h1.1;omega) h1.2
    rw[hr]at this;cases this
  .intro i hi
   obtain⟨h1,h2,o,hoi,h3⟩:=adX.1 hi
   have hil:=(hli i h1).1 h2
   have hedge0:∀ e∈wv ops i,e∉l:=by
    intro e he hm
    have he2:e∈ajF o:=by simpa [wv,hoi]using he
    have h4:=h3 e he2
    have hlt':=(adY hc e hm).1
    have:=(hli e hlt').2 hm
    have hs:e<listed.size:=by omega
    simp only[Array.getD_eq_getD_getElem?,Array.getElem?_eq_getElem hs,Option.getD_some]at this h4
    rw[this]at h4;cases h4
   have hanc:∀ x∈l,(x,i)∉anc:=fun x hxl h5=>by
    have hcl':∀ j,(j<ops.size->j∉l)->∀ e∈wv ops j,(e<ops.size->e∉l):=by
     intro j hj e he hes
     by_cases hjs:j<ops.size
     .exact hcl j hjs (hj hjs) e he
     .simp[wv,Array.getElem?_eq_none (Nat.le_of_not_lt hjs)]at he
    exact absurd hxl (ajG (L:=fun j=>j<ops.size->j∉l) ha hlt hcl' x i (fun e he _=>hedge0 e he) h5 (adY hc x hxl).1)
   have book:∀ pre post,l=pre++i::post->(∀x∈pre,aaS ops cl x i=true)/\chk ops cl anc (pre++post)=true/\(∀j,j<ops.size->((listed.setIfInBounds i true).getD j true=false↔j∈pre++post))/\(∀j,j<ops.size->j∉pre++post->∀ e∈wv ops j,e∉pre++post):=by
    intro pre post hlp
    have hc0:=hc
    rw[hlp]at hc0
    have hpass:∀ x∈pre,aaS ops cl x i=true:=by
     have gen:∀ (p:List Nat),chk ops cl anc (p++i::post)=true->∀ x∈p,aaS ops cl x i=true\/x∈wv ops i\/(x,i)∈anc:=by
      intro p
      induction p with
      | nil=>intro _ x hx;cases hx
      | cons y p ihp=>
       intro hc x hx
       simp only[List.cons_append,chk,Bool.and_eq_true]at hc
       rcases List.mem_cons.1 hx with rfl | hx
       .have:=List.all_eq_true.1 hc.1.2 i (by simp)
        simp only[Bool.or_eq_true,List.contains_iff_mem]at this
        rcases this with(h | h) | h
        .exact .inl h
        .exact .inr (.inl h)
        .exact .inr (.inr h)
       .exact ihp hc.2 x hx
     intro x hx
     have hxm:x∈l:=by rw[hlp];exact List.mem_append_left _ hx
     rcases gen pre hc0 x hx with h | h | h
     .exact h
     .exact absurd hxm (hedge0 x h)
     .exact absurd h (hanc x hxm)
    have hnd:i∉pre++post:=by
     have:(pre++i::post).Nodup:=by
      have gen:∀ l:List Nat,chk ops cl anc l=true->l.Nodup:=by
       intro l
       induction l with
       | nil=>intro _;exact List.nodup_nil
       | cons y r ihr=>
        intro hc
        simp only[chk,Bool.and_eq_true,Bool.not_eq_true']at hc
        refine List.nodup_cons.2 ⟨?_,ihr hc.2⟩
        have:=hc.1.1.1.2
        intro hm;rw[List.contains_iff_mem.2 hm]at this;cases this
      exact gen _ hc0
     have:=(List.perm_middle (a:=i) (l₁:=pre) (l₂:=post)).nodup_iff.1 this
     exact(List.nodup_cons.1 this).1
    have hc':chk ops cl anc (pre++post)=true:=by
     have gen:∀ (p:List Nat),chk ops cl anc (p++i::post)=true->chk ops cl anc (p++post)=true:=by
      intro p
      induction p with
      | nil=>intro hc;simp only[List.nil_append,chk,Bool.and_eq_true]at hc;exact hc.2
      | cons y p ihp=>
       intro hc
       simp only[List.cons_append,chk,Bool.and_eq_true]at hc⊢
       obtain⟨⟨⟨⟨c1,c2⟩,c3⟩,c4⟩,c5⟩:=hc
       refine⟨⟨⟨⟨?_,?_⟩,c3⟩,?_⟩,ihp c5⟩
       .refine List.all_eq_true.2 fun e he=>?_
        have:=List.all_eq_true.1 c1 e he
        simp only[Bool.and_eq_true,Bool.not_eq_true',<-Bool.not_eq_true,List.contains_iff_mem]at this⊢
        refine⟨this.1,fun hm=>this.2 ?_⟩
        simp only[List.mem_cons,List.mem_append]at hm⊢
        rcases hm with h | h | h
        .exact .inl h
        .exact .inr (.inl h)
        .exact .inr (.inr (.inr h))
       .simp only[Bool.not_eq_true',<-Bool.not_eq_true,List.contains_iff_mem]at c2⊢
        intro hm;apply c2
        simp only[List.mem_append,List.mem_cons]at hm⊢
        exact hm.imp id .inr
       .refine List.all_eq_true.2 fun j hj=>List.all_eq_true.1 c4 j ?_
        simp only[List.mem_append,List.mem_cons]at hj⊢
        exact hj.imp id .inr
     exact gen pre hc0
    have hmem:∀ j,j∈pre++post↔j∈l/\j≠i:=by
     intro j
     rw[hlp]
     simp only[List.mem_append,List.mem_cons]
     constructor
     .intro(hh:j∈pre\/j∈post)
      refine⟨hh.imp id .inr,fun e=>?_⟩
      subst e;exact hnd (List.mem_append.2 hh)
     .rintro⟨h | h | h,hne⟩
      .exact .inl h
      .exact absurd h hne
      .exact .inr h
    refine⟨hpass,hc',fun j hj=>?_,fun j hj hjn e he hm=>?_⟩
    .rw[hmem]
     by_cases e:j=i
     .subst e
      have:j<listed.size:=by omega
      simp[Array.getD_eq_getD_getElem?,this]
     .rw[abO.Region_getD_set e]
      constructor
      .intro h;exact⟨(hli j hj).1 h,e⟩
      .intro h;exact(hli j hj).2 h.1
    .have hm':=((hmem e).1 hm).1
     by_cases e':j=i
     .subst e';exact hedge0 e he hm'
     .exact hcl j hj (fun hh=>hjn ((hmem j).2 ⟨hh,e'⟩)) e he hm'
   rw[hl]at hil
   rcases List.mem_append.1 hil with hi1 | hi2
   .obtain⟨pre,post1,rfl⟩:=List.append_of_mem hi1
    obtain⟨b1,b2,b3,b4⟩:=book pre (post1++l2) (by rw[hl];simp)
    rw[<-List.append_assoc]at b2 b3 b4
    have hd:=adt (P:=P) (B:=B) (N:=N) (hC l2) post1 pre b1 ⟨φ,w,ho⟩ h
    refine abO.D1.sound hoi hd ho hf fun fr I a w hk ho hf=>ih (pre++post1) l2 _ ?_ (by simpa using hsz) b2 (fun j hj=>?_) b3 b4 hk ho hf
    .simp at hn ⊢;omega
    .exact(haft j hj).imp id fun h x hx=>h x (by simp only[List.mem_append,List.mem_cons]at hx ⊢;exact hx.imp id .inr)
   .have h0:cl i=0:=by
     rcases haft i hi2 with h | h
     .exact h
     .exfalso
      cases l1 with
      | nil=>exact hnil rfl
      | cons x r=>
       have hxl:x∈l:=by rw[hl];exact List.mem_append_left _ (List.mem_cons_self ..)
       rcases h x (List.mem_cons_self ..)with h5 | h5
       .exact hedge0 x h5 hxl
       .exact hanc x hxl h5
    obtain⟨pre,post,rfl⟩:=List.append_of_mem hi2
    obtain⟨b1,b2,b3,b4⟩:=book (l1++pre) post (by rw[hl];simp)
    rw[List.append_assoc]at b2 b3 b4
    have hr:qP ψ ro:=fun b o hb=>(hp b o hb).2
    have hd:=atV (P:=P) (B:=B) (N:=N) hK hr h0 (fun x hx=>b1 x (List.mem_append_left _ hx)) (fun x hx=>b1 x (List.mem_append_right _ hx)) ⟨φ,w,ho⟩ h
    refine abO.D1.sound hoi hd ho hf fun fr I a w hk ho hf=>ih l1 (pre++post) _ ?_ (by simpa using hsz) b2 (fun j hj=>haft j (by simp only[List.mem_append,List.mem_cons]at hj ⊢;exact hj.imp id .inr)) b3 b4 hk ho hf
    simp at hn ⊢;omega
def as9(ops:Array Oper)(cl:Nat->Nat)(anc:List (Nat×Nat))(l1 l2:List Nat):Bool:=l2.all fun j=>cl j == 0 || l1.all fun i=>(wv ops j).contains i || anc.contains (i,j)
theorem AW.drawn2{K:AH->AH->Prop}(cl:Nat->Nat)(anc:List (Nat×Nat))(l1 l2:List Nat)(hm:P.follows .mixedOrders=true)(hl:yP I K)
  (hc:(chk ops cl anc (l1++l2) && agA ops anc && full ops.size (l1++l2) && ((l1++l2).length == ops.size) && as9 ops cl anc l1 l2)=true)
  (h:∀ ψ τ,K ψ τ->wj P B (join ro ψ) N ops cl (fun fr I=> ∃fr',zr fr' fr/\(qP ψ I->wj P B ro N ops cl (fun fr I=> ∃fr',zr fr' fr/\Q .normal fr' I) l2 fr' (join ψ I))) l1 fr τ):AW P B ro N (.region id ops true) Q fr I:=by
 obtain⟨ψ,τ,hd,rfl,hk⟩:=hl
 have h:=h ψ τ hk
 simp only[Bool.and_eq_true,beq_iff_eq]at hc
 obtain⟨⟨⟨⟨c1,c2⟩,c3⟩,c4⟩,c5⟩:=hc
 intro φ w a ho hf
 refine wp_region_any hm ?_
 have hp:∀ b o,ψ b=some o->φ b=none/\ro b=none:=fun b o hs=>(ho.own b o (kU hs)).2
 have hall:∀ i,i<ops.size->i∈l1++l2:=fun i hi=>List.contains_iff_mem.1 (List.all_eq_true.1 c3 i (List.mem_range.2 hi))
 have hlt:∀ i,∀e∈wv ops i,e<i:=by
  intro i e he
  by_cases hi:i<ops.size
  .exact(adY c1 i (hall i hi)).2 e he
  .simp[wv,Array.getElem?_eq_none (Nat.le_of_not_lt hi)]at he
 have hw:Own B (join ro ψ) φ τ {w with drawn:=w.drawn+1}:=(ho.lend hd).drawn _
 have haft:∀ j∈l2,cl j=0\/∀ i∈l1,i∈wv ops j\/(i,j)∈anc:=fun j hj=>by
  have:=List.all_eq_true.1 c5 j hj
  simp only[Bool.or_eq_true,beq_iff_eq]at this
  refine this.imp (fun x=>x) fun h i hi=>?_
  have:=List.all_eq_true.1 h i hi
  simpa using this
 have:=amL (P:=P) (B:=B) (ro:=ro) (N:=N) (ops:=ops) (cl:=cl) (anc:=anc) c2 hlt
  (Q:=fun e fr I=>e= .normal/\∃ fr',zr fr' fr/\Q .normal fr' I)
  (fun fr fr' I he ⟨h0,fr2,h1,h2⟩=>⟨h0,fr2,fun i=>(h1 i).trans (he i),h2⟩) (φ:=φ) (ψ:=ψ) hp (l1.length+l2.length) l1 l2 (Array.replicate ops.size false)
  (w:={w with drawn:=w.drawn+1}) (a:=a) (fr:=fr) (I:=τ) rfl (by simp) c1 haft
  (fun i hi=>⟨fun _=>hall i hi,fun _=>by simp[hi]⟩) (fun i hi hn=>absurd (hall i hi) hn) ?_ hw hf
 .have hlen:l1.length+l2.length=ops.size:=by rw[<-List.length_append];exact c4
  rw[hlen]at this
  refine AW.drawn.wpAny_post ?_ _ _ this
  rintro e a' w' ⟨fr',I',⟨rfl,fr2,he,hq⟩,ho',hf'⟩
  exact⟨fr2,_,hq,ho',⟨hf'.size,hf'.defers,fun i v hi=>hf'.has i v (by rw[<-he i];exact hi)⟩⟩
 .refine AW.drawn.DOps_post ?_ l1 h
  rintro fr I ⟨fr',h1,h2⟩;refine⟨fr',h1,fun hd=>AW.drawn.DOps_post ?_ l2 (h2 hd)⟩
  intro fr I hk;exact⟨rfl,hk⟩
end
end SL
namespace G
open Go SL
variable{B:World}{ro I:AH}
variable{a0_11 a0_3:Int}{a0 a0_2 a0_4:Sl}
def jT(B:World)(ro:AH)(u0:Nat)(u1:Option Addr)(Q:Sl->Int->AH->Prop)(I:AH):=
 ∃u2,qa ro I ((⟨u0,0,none⟩:Addr).add 11)=some (.int .i64 u2)/\
 nw ro I (.cells #[.int .i64 u2] 3) fun u3 I=>
 wX B ro u1 (⟨some ⟨u3,0,none⟩,1,1⟩:Sl) I fun I=>
 uq B ro u1 I fun u4 u5 I=>
 if¬(u5=0)then
 Q (⟨none,0,0⟩:Sl) 170 I
 else
 Q u4 0 I
def jU(B:World)(ro:AH)(u0:Nat)(u1:Option Addr)(u2:Sl)(Q:Sl->Int->AH->Prop):Int->AH->(Int->AH->Prop)->Prop:=fun u3 I Y34=>
 if u3<(u2.len:Int)then
 ∃p4,u2.a=some p4/\(0:Int)<=u3/\u3<(u2.len:Int)/\
 ∃u5 u6 u7,qg ro I (p4.add (Int.toNat u3*3)) 0 [.int .i64 u5,.int .i64 u6,.string u7]/\
 nw ro I (.cells #[.int .i64 0,.int .i64 0,.string ByteArray.empty] 132) fun u8 I=>
 stN ⟨u8,0,none⟩ (fun I=>
  ∃u9,qa ro I ⟨u8,0,none⟩=some (.int .i64 u9)/\
  ∃u10,qa ro I ((⟨u8,0,none⟩:Addr).add 1)=some (.int .i64 u10)/\
  nw ro I (.cells #[.int .i64 u9,.int .i64 u10] 3) fun u11 I=>
  wX B ro u1 (⟨some ⟨u11,0,none⟩,2,2⟩:Sl) I fun I=>
  ∃u12,qa ro I ((⟨u8,0,none⟩:Addr).add 2)=some (.string u12)/\
  nw ro I (.cells #[.string u12] 9) fun u13 I=>
  vh B ro u1 (⟨some ⟨u13,0,none⟩,1,1⟩:Sl) I fun I=>
  Y34 (i64.wrap (u3+1)) I) [.int .i64 u5,.int .i64 u6,.string u7] 0 I
 else
 jT B ro u0 u1 Q I
def jV(B:World)(ro:AH)(u0:Nat)(u1:Option Addr)(Q:Sl->Int->AH->Prop)(I:AH):=
 ∃u2,qa ro I ((⟨u0,0,none⟩:Addr).add 3)=some (.int .i64 u2)/\
 nw ro I (.cells #[.int .i64 (i64.wrap (u2+1))] 3) fun u3 I=>
 wX B ro u1 (⟨some ⟨u3,0,none⟩,1,1⟩:Sl) I fun I=>
 ∃u4,qa ro I ((⟨u0,0,none⟩:Addr).add 4)=some (Sl.v u4)/\
 nw ro I (.cells #[Sl.v u4] 24) fun u5 I=>
 jm B ro u1 (⟨some ⟨u5,0,none⟩,1,1⟩:Sl) I fun I=>
 ∃u6,qa ro I ((⟨u0,0,none⟩:Addr).add 5)=some (.int .i64 u6)/\
 ∃u7,qa ro I (((⟨u0,0,none⟩:Addr).add 5).add 1)=some (.int .i64 u7)/\
 ∃u8,qa ro I (((⟨u0,0,none⟩:Addr).add 5).add 2)=some (.int .i64 u8)/\
 ∃u9,qa ro I (((⟨u0,0,none⟩:Addr).add 5).add 3)=some (.int .i64 u9)/\
 ∃u10,qa ro I ((⟨u0,0,none⟩:Addr).add 9)=some (Sl.v u10)/\
 nw ro I (.cells #[.int .i64 u6,.int .i64 u7,.int .i64 u8,.int .i64 u9,.int .i64 (u10.len:Int)] 3) fun u11 I=>
 wX B ro u1 (⟨some ⟨u11,0,none⟩,5,5⟩:Sl) I fun I=>
 ∃u12,qa ro I ((⟨u0,0,none⟩:Addr).add 9)=some (Sl.v u12)/\
 vh B ro u1 u12 I fun I=>
 ∃u13,qa ro I ((⟨u0,0,none⟩:Addr).add 10)=some (Sl.v u13)/\
 nw ro I (.cells #[.int .i64 (u13.len:Int)] 3) fun u14 I=>
 wX B ro u1 (⟨some ⟨u14,0,none⟩,1,1⟩:Sl) I fun I=>
 ∃u15,qa ro I ((⟨u0,0,none⟩:Addr).add 10)=some (Sl.v u15)/\
 lfpD (jU B ro u0 u1 u15 Q) (0) I
def jW(B:World)(ro:AH)(u0:Nat)(u1:Option Addr)(u2:Sl)(Q:Sl->Int->AH->Prop):Int->AH->(Int->AH->Prop)->Prop:=fun u3 I Y45=>
 if u3<(u2.len:Int)then
 ∃p4,u2.a=some p4/\(0:Int)<=u3/\u3<(u2.len:Int)/\
 ∃u5 u6,qg ro I (p4.add (Int.toNat u3*2)) 0 [.string u5,.int .i64 u6]/\
 nw ro I (.cells #[.string ByteArray.empty,.int .i64 0] 128) fun u7 I=>
 stN ⟨u7,0,none⟩ (fun I=>
  ∃u8,qa ro I ⟨u7,0,none⟩=some (.string u8)/\
  nw ro I (.cells #[.string u8] 9) fun u9 I=>
  vh B ro u1 (⟨some ⟨u9,0,none⟩,1,1⟩:Sl) I fun I=>
  ∃u10,qa ro I ((⟨u7,0,none⟩:Addr).add 1)=some (.int .i64 u10)/\
  nw ro I (.cells #[.int .i64 u10] 3) fun u11 I=>
  wX B ro u1 (⟨some ⟨u11,0,none⟩,1,1⟩:Sl) I fun I=>
  Y45 (i64.wrap (u3+1)) I) [.string u5,.int .i64 u6] 0 I
 else
 jV B ro u0 u1 Q I
def kP(B:World)(ro:AH)(u0:Nat)(Q:Sl->Int->AH->Prop)(u1:Bool)(I:AH):=
 if u1=true then
 Q (⟨none,0,0⟩:Sl) 170 I
 else
 uR B ro I fun u2 I=>
 ∃u3,qa ro I ⟨u0,0,none⟩=some (.int .i64 u3)/\
 ∃u4,qa ro I ((⟨u0,0,none⟩:Addr).add 1)=some (.int .i64 u4)/\
 ∃u5,qa ro I ((⟨u0,0,none⟩:Addr).add 2)=some (Sl.v u5)/\
 nw ro I (.cells #[.int .i64 u3,.int .i64 u4,.int .i64 (u5.len:Int)] 3) fun u6 I=>
 wX B ro u2 (⟨some ⟨u6,0,none⟩,3,3⟩:Sl) I fun I=>
 ∃u7,qa ro I ((⟨u0,0,none⟩:Addr).add 2)=some (Sl.v u7)/\
 lfpD (jW B ro u0 u2 u7 Q) (0) I
def kQ(B:World)(ro:AH)(u0:Nat)(Q:Sl->Int->AH->Prop)(u1:Bool)(I:AH):=
 if u1=true then
 kP B ro u0 Q true I
 else
 ∃u2,qa ro I ((⟨u0,0,none⟩:Addr).add 3)=some (.int .i64 u2)/\
 kP B ro u0 Q (decide (4611686018427387903<=u2)) I
def kR(B:World)(ro:AH)(u0:Nat)(Q:Sl->Int->AH->Prop)(u1:Bool)(I:AH):=
 if u1=true then
 kQ B ro u0 Q true I
 else
 ∃u2,qa ro I ((⟨u0,0,none⟩:Addr).add 10)=some (Sl.v u2)/\
 kQ B ro u0 Q (decide (32<(u2.len:Int))) I
def acE(B:World)(ro:AH)(a0_0 a0_1:Int)(a0_2:Sl)(a0_3:Int)(a0_4:Sl)(a0_5 a0_6 a0_7 a0_8:Int)(a0_9 a0_10:Sl)(a0_11:Int)(I:AH)(Q:Sl->Int->AH->Prop):=
 nw ro I (.cells #[.int .i64 a0_0,.int .i64 a0_1,Sl.v a0_2,.int .i64 a0_3,Sl.v a0_4,.int .i64 a0_5,.int .i64 a0_6,.int .i64 a0_7,.int .i64 a0_8,Sl.v a0_9,Sl.v a0_10,.int .i64 a0_11] 30) fun u0 I=>
 ∃u1,qa ro I ((⟨u0,0,none⟩:Addr).add 2)=some (Sl.v u1)/\
 if 16<(u1.len:Int)then
 kR B ro u0 Q true I
 else
 ∃u2,qa ro I ((⟨u0,0,none⟩:Addr).add 9)=some (Sl.v u2)/\
 kR B ro u0 Q (decide (4096<(u2.len:Int))) I
theorem aiP{a0_0 a0_1:Int}{a0_5 a0_6 a0_7 a0_8:Int}{a0_9 a0_10:Sl}{Q:Sl->Int->AH->Prop}(h:Sep ro I->acE B ro a0_0 a0_1 a0_2 a0_3 a0_4 a0_5 a0_6 a0_7 a0_8 a0_9 a0_10 a0_11 I Q):acm B ro a0_0 a0_1 a0_2 a0_3 a0_4 a0_5 a0_6 a0_7 a0_8 a0_9 a0_10 a0_11 I Q:=by
 refine zb h func12 ntmps12 fun h=>?_;unfold acE at h;refine z3 ?_;refine zA (wI rfl rfl) h fun u0 h=>?_;iterate 2 refine zp ?_
 refine z2 (AW.seq (z3 ?_))
 refine zf underlying30 aee ?_;refine zL underlying23 h fun u1 h=>?_;refine zm (qT rfl rfl underlying23 rfl rfl) ?_;iterate 2 refine zp ?_
 refine qO 5 (decide (16<(u1.len:Int))) decide_eq_true_iff h (fun fr I=> ∃(u2:Bool),qo [(1,.pointer (some ⟨u0,0,none⟩)),(20,.bool u2)] fr/\kR B ro u0 Q u2 I) ?_ ?_ ?_
 .intro h e4 hk4;iterate 4 refine zn e4 ?_
  refine zk e4 ?_;exact hk4 _ _ ⟨_,FL,h⟩
 .intro h e4 hk4;refine qX (wm rfl underlying30 rfl ajg (by decide) rfl) rfl rfl rfl rfl e4 ?_
  obtain⟨u3,hc,h⟩:=h
  refine Lyb rfl rfl rfl rfl e4 (vG rfl underlying27 rfl rfl hc ?_)
  refine qX (qT rfl rfl underlying27 rfl rfl) rfl rfl rfl rfl e4 ?_
  refine zy e4 ?_;refine zk e4 ?_;exact hk4 _ _ ⟨_,FL,h⟩
 rintro fr I ⟨u2,hl,h⟩;unfold kR at h;refine Lfr hl ?_
 refine zp ?_;refine qO 5 u2 Iff.rfl h (fun fr I=> ∃(u4:Bool),qo [(1,.pointer (some ⟨u0,0,none⟩)),(26,.bool u4)] fr/\kQ B ro u0 Q u4 I) ?_ ?_ ?_
 .intro h e10 hk10;iterate 4 refine zn e10 ?_
  refine zk e10 ?_;exact hk10 _ _ ⟨_,FL,h⟩
 .intro h e10 hk10;refine qX (wm rfl underlying30 rfl uQ (by decide) rfl) rfl rfl rfl rfl e10 ?_
  obtain⟨u5,hc,h⟩:=h
  refine Lyb rfl rfl rfl rfl e10 (vG rfl underlying28 rfl rfl hc ?_)
  refine qX (qT rfl rfl underlying28 rfl rfl) rfl rfl rfl rfl e10 ?_
  refine zy e10 ?_;refine zk e10 ?_;exact hk10 _ _ ⟨_,FL,h⟩
 rintro fr I ⟨u4,hl,h⟩;unfold kQ at h;refine Lfr hl ?_
 refine zp ?_;refine qO 4 u4 Iff.rfl h (fun fr I=> ∃(u6:Bool),qo [(1,.pointer (some ⟨u0,0,none⟩)),(31,.bool u6)] fr/\kP B ro u0 Q u6 I) ?_ ?_ ?_
 .intro h e16 hk16;iterate 3 refine zn e16 ?_
  refine zk e16 ?_;exact hk16 _ _ ⟨_,FL,h⟩
 .intro h e16 hk16;refine qX (wm rfl underlying30 rfl ty3 (by decide) rfl) rfl rfl rfl rfl e16 ?_
  obtain⟨u7,hc,h⟩:=h
  refine Lyb rfl rfl rfl rfl e16 (vG rfl underlying3 rfl rfl hc ?_)
  refine zy e16 ?_;refine zk e16 ?_;exact hk16 _ _ ⟨_,FL,h⟩
 rintro fr I ⟨u6,hl,h⟩;unfold kP at h;refine Lfr hl ?_
 refine z2 ?_;refine zj h (fun h=>?_) fun h=>?_
 .refine z3 ?_;iterate 2 refine zp ?_
  refine z2 ?_;refine AW.ret ?_;refine qi ?_;exact bR2 results12 rfl rfl ⟨_,_,rfl,h⟩
 refine AW.skip ?_;refine qd (z3 ?_);refine zc func43 h ?_;rintro v I ⟨u8,rfl,h⟩;refine zp ?_;refine z4 ?_;refine zp ?_;refine zf underlying30 adv ?_;refine zL underlying22 h fun u9 h=>?_;refine zf underlying30 ty3 ?_;refine zL underlying3 h fun u10 h=>?_;refine zf underlying30 aee ?_;refine zL underlying23 h fun u11 h=>?_;refine zm (qT rfl rfl underlying23 rfl rfl) ?_
 refine zA (zR (vs:=[(0,.int .i64 u9),(1,.int .i64 u10),(2,.int .i64 (u11.len:Int))]) (cs:= #[.int .i64 u9,.int .i64 u10,.int .i64 (u11.len:Int)]) rfl underlying55 ty3 (by decide) rfl rfl) h fun u12 h=>?_;refine zc func44 h ?_;rintro v I ⟨rfl,h⟩;refine z2 ?_;refine AW.seqJ (fun fr I=>qo [(1,.pointer (some ⟨u0,0,none⟩)),(4,.pointer u8)] fr/\jV B ro u0 u8 Q I) ?_ ?_
 rotate_left
 .refine z3 ?_;refine zf underlying30 aee ?_;refine zL underlying23 h fun u13 h=>?_;refine zm (qT rfl rfl underlying23 rfl rfl) ?_;refine zp ?_;refine z2 (AW.block ?_)
  refine qk.loop (fr':=[(1,.pointer (some ⟨u0,0,none⟩)),(4,.pointer u8),(44,Sl.v u13),(45,.int .i64 (u13.len:Int)),(46,.int .i64 0)]) ?_ FL
  refine h (fun u14 I=>qk _ _ _ _ _ _ [(1,.pointer (some ⟨u0,0,none⟩)),(4,.pointer u8),(44,Sl.v u13),(45,.int .i64 (u13.len:Int)),(46,.int .i64 u14)] I) ?_
  rintro u14 I Y45 hY45 h
  show AW _ _ _ _ _ _ _ _
  unfold jW at h;refine z3 ?_;refine zp ?_;refine z2 (AW.seq ?_)
  refine zi h (fun h=>?_) fun h=>?_
  rotate_left
  .refine AW.exit ?_;refine qH (qH ?_);refine wB ?_
   refine qd ?_;exact⟨FL,h⟩
  refine AW.skip ?_;refine qd (AW.seq (AW.block (z3 ?_)));obtain⟨p15,ha,h0,h1,h⟩:=h
  refine zm (vv rfl underlying23 adM (ixL rfl ha) rfl h0 h1) ?_;obtain⟨u16,u17,hc,h⟩:=h
  refine zl (wY rfl underlying128 rfl adM rfl hc ?_)
  refine zA (qY rfl adM) h fun u18 h=>?_;refine zs adM h fun I h=>?_;refine z4 ?_;refine zp ?_;refine zf underlying128 ty9 ?_;refine zL underlying9 h fun u19 h=>?_;refine zA (zR (vs:=[(0,.string u19)]) (cs:= #[.string u19]) rfl underlying27 ty9 (by decide) rfl rfl) h fun u20 h=>?_;refine zc func45 h ?_;rintro v I ⟨rfl,h⟩;refine z2 (AW.reg ?_)
  refine zp ?_;refine zf underlying128 ty3 ?_;refine zL underlying3 h fun u21 h=>?_;refine zA (zR (vs:=[(0,.int .i64 u21)]) (cs:= #[.int .i64 u21]) rfl underlying55 ty3 (by decide) rfl rfl) h fun u22 h=>?_;refine zc func44 h ?_;rintro v I ⟨rfl,h⟩;refine ju (qD (qd (AW.reg ?_)));iterate 2 refine zp ?_
  refine z2 ?_;refine qk.head (fr':=[(1,.pointer (some ⟨u0,0,none⟩)),(4,.pointer u8),(44,Sl.v u13),(45,.int .i64 (u13.len:Int)),(46,.int .i64 (i64.wrap (u14+1)))]) ?_ FL
  exact hY45 _ _ h
 rintro fr I ⟨hl,h⟩;refine AW.weaken ?_ hl (HLe.refl _)
 unfold jV at h;refine z3 ?_;refine zp ?_;refine zf underlying30 ty3 ?_;refine zL underlying3 h fun u23 h=>?_;refine zp ?_;refine zA (zR (vs:=[(0,.int .i64 (i64.wrap (u23+1)))]) (cs:= #[.int .i64 (i64.wrap (u23+1))]) rfl underlying55 ty3 (by decide) rfl rfl) h fun u24 h=>?_;refine zc func44 h ?_;rintro v I ⟨rfl,h⟩;refine z4 ?_;refine zp ?_;refine zf underlying30 wO ?_
 refine zL underlying24 h fun u25 h=>?_;refine zA (zR (vs:=[(0,Sl.v u25)]) (cs:= #[Sl.v u25]) rfl underlying227 wO (by decide) rfl rfl) h fun u26 h=>?_;refine zc func46 h ?_;rintro v I ⟨rfl,h⟩;refine z4 ?_;refine zp ?_;refine zf underlying30 wA ?_;refine zf underlying26 ty3 ?_;refine zL underlying3 h fun u27 h=>?_;refine zf underlying30 wA ?_;refine zf underlying26 ty3 ?_
 refine zL underlying3 h fun u28 h=>?_;refine zf underlying30 wA ?_;refine zf underlying26 ty3 ?_;refine zL underlying3 h fun u29 h=>?_;refine zf underlying30 wA ?_;refine zf underlying26 ty3 ?_;refine zL underlying3 h fun u30 h=>?_;refine zf underlying30 ajg ?_;refine zL underlying27 h fun u31 h=>?_;refine zm (qT rfl rfl underlying27 rfl rfl) ?_;refine zA (zR (vs:=[(0,.int .i64 u27),(1,.int .i64 u28),(2,.int .i64 u29),(3,.int .i64 u30),(4,.int .i64 (u31.len:Int))]) (cs:= #[.int .i64 u27,.int .i64 u28,.int .i64 u29,.int .i64 u30,.int .i64 (u31.len:Int)]) rfl underlying55 ty3 (by decide) rfl rfl) h fun u32 h=>?_
 refine zc func44 h ?_;rintro v I ⟨rfl,h⟩;refine z4 ?_;refine zp ?_;refine zf underlying30 ajg ?_;refine zL underlying27 h fun u33 h=>?_;refine zc func45 h ?_;rintro v I ⟨rfl,h⟩;refine z4 ?_;refine zp ?_;refine zf underlying30 uQ ?_;refine zL underlying28 h fun u34 h=>?_;refine zm (qT rfl rfl underlying28 rfl rfl) ?_;refine zA (zR (vs:=[(0,.int .i64 (u34.len:Int))]) (cs:= #[.int .i64 (u34.len:Int)]) rfl underlying55 ty3 (by decide) rfl rfl) h fun u35 h=>?_
 refine zc func44 h ?_;rintro v I ⟨rfl,h⟩;refine z2 ?_;refine AW.seqJ (fun fr I=>qo [(1,.pointer (some ⟨u0,0,none⟩)),(4,.pointer u8)] fr/\jT B ro u0 u8 Q I) ?_ ?_
 .rintro fr I ⟨hl,h⟩;refine AW.weaken ?_ hl (HLe.refl _)
  unfold jT at h;refine z3 ?_;refine zp ?_;refine zf underlying30 ty3 ?_;refine zL underlying3 h fun u36 h=>?_;refine zA (zR (vs:=[(0,.int .i64 u36)]) (cs:= #[.int .i64 u36]) rfl underlying55 ty3 (by decide) rfl rfl) h fun u37 h=>?_;refine zc func44 h ?_;rintro v I ⟨rfl,h⟩;refine z4 ?_;refine zp ?_;refine zc func47 h ?_;rintro v I ⟨u38,u39,rfl,h⟩;iterate 5 refine zp ?_
  refine z2 (AW.seq (z3 ?_))
  iterate 2 refine zp ?_
  refine z2 ?_;refine AW.iff rfl (qu decide_eq_true_iff) h (fun h=>?_) (fun h=>?_)
  .refine z3 ?_;iterate 2 refine zp ?_
   refine z2 ?_;refine AW.ret ?_;refine qi ?_;exact bR2 results12 rfl rfl ⟨_,_,rfl,h⟩
  refine AW.skip ?_;refine qd (z3 ?_);iterate 3 refine zp ?_
  refine z2 ?_;refine AW.ret ?_;exact bR2 results12 rfl rfl ⟨_,_,rfl,h⟩
 refine z3 ?_;refine zf underlying30 uQ ?_;refine zL underlying28 h fun u40 h=>?_;refine zm (qT rfl rfl underlying28 rfl rfl) ?_;refine zp ?_;refine z2 (AW.block ?_)
 refine qk.loop (fr':=[(1,.pointer (some ⟨u0,0,none⟩)),(4,.pointer u8),(101,Sl.v u40),(102,.int .i64 (u40.len:Int)),(103,.int .i64 0)]) ?_ FL
 refine h (fun u41 I=>qk _ _ _ _ _ _ [(1,.pointer (some ⟨u0,0,none⟩)),(4,.pointer u8),(101,Sl.v u40),(102,.int .i64 (u40.len:Int)),(103,.int .i64 u41)] I) ?_
 rintro u41 I Y34 hY34 h
 show AW _ _ _ _ _ _ _ _
 unfold jU at h;refine z3 ?_;refine zp ?_;refine z2 (AW.seq ?_)
 refine zi h (fun h=>?_) fun h=>?_
 rotate_left
 .refine AW.exit ?_;refine qH (qH ?_);refine wB ?_
  refine qd ?_;exact⟨FL,h⟩
 refine AW.skip ?_;refine qd (AW.seq (AW.block (z3 ?_)));obtain⟨p42,ha,h0,h1,h⟩:=h
 refine zm (vv rfl underlying28 jD (ixL rfl ha) rfl h0 h1) ?_;obtain⟨u43,u44,u45,hc,h⟩:=h
 refine zl (wY rfl underlying132 rfl jD rfl hc ?_)
 refine zA (qY rfl jD) h fun u46 h=>?_;refine zs jD h fun I h=>?_;refine z4 ?_;refine zp ?_;refine zf underlying132 ty3 ?_;refine zL underlying3 h fun u47 h=>?_;refine zf underlying132 ty3 ?_;refine zL underlying3 h fun u48 h=>?_;refine zA (zR (vs:=[(0,.int .i64 u47),(1,.int .i64 u48)]) (cs:= #[.int .i64 u47,.int .i64 u48]) rfl underlying55 ty3 (by decide) rfl rfl) h fun u49 h=>?_
 refine zc func44 h ?_;rintro v I ⟨rfl,h⟩;refine z2 (AW.reg ?_)
 refine zp ?_;refine zf underlying132 ty9 ?_;refine zL underlying9 h fun u50 h=>?_;refine zA (zR (vs:=[(0,.string u50)]) (cs:= #[.string u50]) rfl underlying27 ty9 (by decide) rfl rfl) h fun u51 h=>?_;refine zc func45 h ?_;rintro v I ⟨rfl,h⟩;refine ju (qD (qd (AW.reg ?_)));iterate 2 refine zp ?_
 refine z2 ?_;refine qk.head (fr':=[(1,.pointer (some ⟨u0,0,none⟩)),(4,.pointer u8),(101,Sl.v u40),(102,.int .i64 (u40.len:Int)),(103,.int .i64 (i64.wrap (u41+1)))]) ?_ FL
 exact hY34 _ _ h
def xu(B:World)(ro:AH)(u0 u1:Nat)(u2 u3 u4:Int)(Q:Int->Int->Sl->Int->Sl->Int->Int->Int->Int->Sl->Sl->Int->Int->AH->Prop)(u5:Bool)(I:AH):=
 if(((u5=true)\/(16<u2))\/(4096<u3))\/(32<u4)then
 stN ⟨u0,0,none⟩ (fun I=>
  ∃u6 u7 u8 u9 u10 u11 u12 u13 u14 u15 u16 u17,qg ro I ⟨u0,0,none⟩ 0 [.int .i64 u6,.int .i64 u7,Sl.v u8,.int .i64 u9,Sl.v u10,.int .i64 u11,.int .i64 u12,.int .i64 u13,.int .i64 u14,Sl.v u15,Sl.v u16,.int .i64 u17]/\
  Q u6 u7 u8 u9 u10 u11 u12 u13 u14 u15 u16 u17 13 I) [.int .i64 0,.int .i64 0,Sl.v (⟨none,0,0⟩:Sl),.int .i64 0,Sl.v (⟨none,0,0⟩:Sl),.int .i64 0,.int .i64 0,.int .i64 0,.int .i64 0,Sl.v (⟨none,0,0⟩:Sl),Sl.v (⟨none,0,0⟩:Sl),.int .i64 0] 0 I
 else
 ∃u18 u19 u20 u21 u22 u23 u24 u25 u26 u27 u28 u29,qg ro I ⟨u1,0,none⟩ 0 [.int .i64 u18,.int .i64 u19,Sl.v u20,.int .i64 u21,Sl.v u22,.int .i64 u23,.int .i64 u24,.int .i64 u25,.int .i64 u26,Sl.v u27,Sl.v u28,.int .i64 u29]/\
 stN ⟨u0,0,none⟩ (fun I=>
 ∃u30 u31 u32 u33 u34 u35 u36 u37 u38 u39 u40 u41,qg ro I ⟨u0,0,none⟩ 0 [.int .i64 u30,.int .i64 u31,Sl.v u32,.int .i64 u33,Sl.v u34,.int .i64 u35,.int .i64 u36,.int .i64 u37,.int .i64 u38,Sl.v u39,Sl.v u40,.int .i64 u41]/\
 Q u30 u31 u32 u33 u34 u35 u36 u37 u38 u39 u40 u41 0 I) [.int .i64 u18,.int .i64 u19,Sl.v u20,.int .i64 u21,Sl.v u22,.int .i64 u23,.int .i64 u24,.int .i64 u25,.int .i64 u26,Sl.v u27,Sl.v u28,.int .i64 u29] 0 I
def jX(B:World)(ro:AH)(u0 u1:Nat)(u2:Option Addr)(u3 u4 u5:Int)(Q:Int->Int->Sl->Int->Sl->Int->Int->Int->Int->Sl->Sl->Int->Int->AH->Prop)(I:AH):=
 qN B ro u2 I fun u6 I=>
 stN ((⟨u1,0,none⟩:Addr).add 11) (fun I=>
 ur B ro u2 I fun u7 I=>
 if¬(u7=0)then
  xu B ro u0 u1 u3 u4 u5 Q true I
 else
 pM B ro u2 I fun u8 I=>
 xu B ro u0 u1 u3 u4 u5 Q (decide (0<u8)) I) [.int .i64 u6] 0 I
def jY(B:World)(ro:AH)(u0 u1:Nat)(u2:Option Addr)(u3 u4 u5:Int)(Q:Int->Int->Sl->Int->Sl->Int->Int->Int->Int->Sl->Sl->Int->Int->AH->Prop):Int->AH->(Int->AH->Prop)->Prop:=fun u6 I Y26=>
 if u6<(if 32<u5 then 32 else u5)then
 yP I fun ψ I=>
  ∃u7,qa (join ro ψ) (fun _=>none) ((⟨u1,0,none⟩:Addr).add 10)=some (Sl.v u7)/\
  qN B (join ro ψ) u2 I fun u8 I=>
  qN B (join ro ψ) u2 I fun u9 I=>
  xn B (join ro ψ) u2 I fun u10 I=>
  nw (join ro ψ) I (.cells #[.int .i64 u8,.int .i64 u9,.string u10] 132) fun u11 I=>
  (qP ψ I->(fun I=>
  awp prog ro (Builtin.append_ #[28,28] 28 #[Sl.v u7,Sl.v (⟨some ⟨u11,0,none⟩,1,1⟩:Sl)]) (fun v I=> ∃(u12:Sl),v=Sl.v u12/\
   stN ((⟨u1,0,none⟩:Addr).add 10) (fun I=>
   Y26 (i64.wrap (u6+1)) I) [Sl.v u12] 0 I) I) (join ψ I))
 else
 jX B ro u0 u1 u2 u3 u4 u5 Q I
def pX(B:World)(ro:AH)(u0 u1:Nat)(u2:Option Addr)(u3 u4:Int)(Q:Int->Int->Sl->Int->Sl->Int->Int->Int->Int->Sl->Sl->Int->Int->AH->Prop)(I:AH):=
 qN B ro u2 I fun u5 I=>
 lfpD (jY B ro u0 u1 u2 u3 u4 u5 Q) (0) I
def jZ(B:World)(ro:AH)(u0 u1:Nat)(u2:Option Addr)(u3 u4:Int)(Q:Int->Int->Sl->Int->Sl->Int->Int->Int->Int->Sl->Sl->Int->Int->AH->Prop):Int->AH->(Int->AH->Prop)->Prop:=fun u5 I Y34=>
 if u5<(if 4096<u4 then 4096 else u4)then
 yP I fun ψ I=>
  ∃u6,qa (join ro ψ) (fun _=>none) ((⟨u1,0,none⟩:Addr).add 9)=some (Sl.v u6)/\
  xn B (join ro ψ) u2 I fun u7 I=>
  nw (join ro ψ) I (.cells #[.string u7] 9) fun u8 I=>
  (qP ψ I->(fun I=>
  awp prog ro (Builtin.append_ #[27,27] 27 #[Sl.v u6,Sl.v (⟨some ⟨u8,0,none⟩,1,1⟩:Sl)]) (fun v I=> ∃(u9:Sl),v=Sl.v u9/\
   stN ((⟨u1,0,none⟩:Addr).add 9) (fun I=>
   Y34 (i64.wrap (u5+1)) I) [Sl.v u9] 0 I) I) (join ψ I))
 else
 pX B ro u0 u1 u2 u3 u4 Q I
def yr(B:World)(ro:AH)(u0 u1:Nat)(u2:Option Addr)(u3:Int)(Q:Int->Int->Sl->Int->Sl->Int->Int->Int->Int->Sl->Sl->Int->Int->AH->Prop)(I:AH):=
 qN B ro u2 I fun u4 I=>
 stN ((⟨u1,0,none⟩:Addr).add 3) (fun I=>
 jM B ro u2 I fun u5 I=>
 stN ((⟨u1,0,none⟩:Addr).add 4) (fun I=>
  qN B ro u2 I fun u6 I=>
  qN B ro u2 I fun u7 I=>
  qN B ro u2 I fun u8 I=>
  qN B ro u2 I fun u9 I=>
  stN ((⟨u1,0,none⟩:Addr).add 5) (fun I=>
  qN B ro u2 I fun u10 I=>
  lfpD (jZ B ro u0 u1 u2 u3 u10 Q) (0) I) [.int .i64 u6,.int .i64 u7,.int .i64 u8,.int .i64 u9] 0 I) [Sl.v u5] 0 I) [.int .i64 (i64.wrap (u4 - 1))] 0 I
def ya(B:World)(ro:AH)(u0 u1:Nat)(u2:Option Addr)(u3:Int)(Q:Int->Int->Sl->Int->Sl->Int->Int->Int->Int->Sl->Sl->Int->Int->AH->Prop):Int->AH->(Int->AH->Prop)->Prop:=fun u4 I Y40=>
 if u4<(if 16<u3 then 16 else u3)then
 yP I fun ψ I=>
  ∃u5,qa (join ro ψ) (fun _=>none) ((⟨u1,0,none⟩:Addr).add 2)=some (Sl.v u5)/\
  xn B (join ro ψ) u2 I fun u6 I=>
  qN B (join ro ψ) u2 I fun u7 I=>
  nw (join ro ψ) I (.cells #[.string u6,.int .i64 u7] 128) fun u8 I=>
  (qP ψ I->(fun I=>
  awp prog ro (Builtin.append_ #[23,23] 23 #[Sl.v u5,Sl.v (⟨some ⟨u8,0,none⟩,1,1⟩:Sl)]) (fun v I=> ∃(u9:Sl),v=Sl.v u9/\
   stN ((⟨u1,0,none⟩:Addr).add 2) (fun I=>
   Y40 (i64.wrap (u4+1)) I) [Sl.v u9] 0 I) I) (join ψ I))
 else
 yr B ro u0 u1 u2 u3 Q I
def acF(B:World)(ro:AH)(a0:Sl)(I:AH)(Q:Int->Int->Sl->Int->Sl->Int->Int->Int->Int->Sl->Sl->Int->Int->AH->Prop):=
 nw ro I (.cells #[.int .i64 0,.int .i64 0,Sl.v (⟨none,0,0⟩:Sl),.int .i64 0,Sl.v (⟨none,0,0⟩:Sl),.int .i64 0,.int .i64 0,.int .i64 0,.int .i64 0,Sl.v (⟨none,0,0⟩:Sl),Sl.v (⟨none,0,0⟩:Sl),.int .i64 0] 30) fun u0 I=>
 uS B ro a0 I fun u1 I=>
 qN B ro u1 I fun u2 I=>
 qN B ro u1 I fun u3 I=>
 nw ro I (.cells #[.int .i64 0,.int .i64 0,Sl.v (⟨none,0,0⟩:Sl),.int .i64 0,Sl.v (⟨none,0,0⟩:Sl),.int .i64 0,.int .i64 0,.int .i64 0,.int .i64 0,Sl.v (⟨none,0,0⟩:Sl),Sl.v (⟨none,0,0⟩:Sl),.int .i64 0] 30) fun u4 I=>
 stN ⟨u4,0,none⟩ (fun I=>
 qN B ro u1 I fun u5 I=>
 lfpD (ya B ro u0 u4 u1 u5 Q) (0) I) [.int .i64 u2,.int .i64 u3,Sl.v (⟨none,0,0⟩:Sl),.int .i64 0,Sl.v (⟨none,0,0⟩:Sl),.int .i64 0,.int .i64 0,.int .i64 0,.int .i64 0,Sl.v (⟨none,0,0⟩:Sl),Sl.v (⟨none,0,0⟩:Sl),.int .i64 0] 0 I
theorem aiQ{Q:Int->Int->Sl->Int->Sl->Int->Int->Int->Int->Sl->Sl->Int->Int->AH->Prop}(h:Sep ro I->acF B ro a0 I Q):acn B ro a0 I Q:=by
 refine zb h func15 ntmps15 fun h=>?_;unfold acF at h;refine z3 ?_;refine zA (qY rfl qM) h fun u0 h=>?_;refine zp ?_;refine z4 ?_;refine zp ?_;refine zc func53 h ?_;rintro v I ⟨u1,rfl,h⟩;refine zp ?_;refine z4 ?_;refine zp ?_;refine zc func54 h ?_;rintro v I ⟨u2,rfl,h⟩;refine zp ?_;refine zc func54 h ?_;rintro v I ⟨u3,rfl,h⟩;refine zm (wz (vs:=[(0,.int .i64 u2),(1,.int .i64 u3)]) (cs:= #[.int .i64 u2,.int .i64 u3,Sl.v (⟨none,0,0⟩:Sl),.int .i64 0,Sl.v (⟨none,0,0⟩:Sl),.int .i64 0,.int .i64 0,.int .i64 0,.int .i64 0,Sl.v (⟨none,0,0⟩:Sl),Sl.v (⟨none,0,0⟩:Sl),.int .i64 0]) rfl underlying30 qM aeX rfl (by kernel_rfl)) ?_
 refine zA (qY rfl qM) h fun u4 h=>?_;refine zs qM h fun I h=>?_;refine z4 ?_;refine zp ?_;refine zc func54 h ?_;rintro v I ⟨u5,rfl,h⟩;refine zp ?_;refine z2 ?_;refine AW.seqJ (fun fr I=>qo [(2,.pointer (some ⟨u0,0,none⟩)),(4,.pointer u1),(5,.pointer (some ⟨u4,0,none⟩)),(6,.int .i64 u5)] fr/\yr B ro u0 u4 u1 u5 Q I) ?_ ?_
 rotate_left
 .refine z3 ?_;refine zp ?_;refine zm (al8 rfl rfl) ?_;refine zp ?_;refine z2 (AW.block ?_)
  refine qk.loop (fr':=[(2,.pointer (some ⟨u0,0,none⟩)),(4,.pointer u1),(5,.pointer (some ⟨u4,0,none⟩)),(6,.int .i64 u5),(19,.int .i64 (if 16<u5 then 16 else u5)),(20,.int .i64 0)]) ?_ FL
  refine h (fun u6 I=>qk _ _ _ _ _ _ [(2,.pointer (some ⟨u0,0,none⟩)),(4,.pointer u1),(5,.pointer (some ⟨u4,0,none⟩)),(6,.int .i64 u5),(19,.int .i64 (if 16<u5 then 16 else u5)),(20,.int .i64 u6)] I) ?_
  rintro u6 I Y40 hY40 h
  show AW _ _ _ _ _ _ _ _
  unfold ya at h;refine z3 ?_;refine zp ?_;refine z2 (AW.seq ?_)
  refine zi h (fun h=>?_) fun h=>?_
  rotate_left
  .refine AW.exit ?_;refine qH (qH ?_);refine wB ?_
   refine qd ?_;exact⟨FL,h⟩
  refine AW.skip ?_;refine qd (AW.seq (AW.block ?_));refine AW.drawn2 (fun i=>([0,0,0,2,0,2,0,1,2,0,2]:List Nat).getD i 2) [(0,1),(0,8),(2,3),(2,6),(2,7),(2,8),(3,6),(3,7),(3,8),(4,5),(4,6),(4,7),(4,8),(6,7),(6,8)] [0,1,2,4,3,5,6,7] [8,9,10] mixed h (by decide+kernel) ?_
  clear h
  intro ψ I h
  refine zg underlying30 aee ?_;obtain⟨u7,hc,h⟩:=h
  refine Dp rfl rfl rfl rfl (yQ rfl underlying23 rfl rfl hc) ?_
  iterate 2 refine zq ?_
  refine Dg rfl rfl rfl rfl (qF rfl func55 rfl rfl rfl (qc.mono h ?_))
  rintro v I ⟨u8,rfl,h⟩;refine Dg rfl rfl rfl rfl (qF rfl func54 rfl rfl rfl (qc.mono h ?_))
  rintro v I ⟨u9,rfl,h⟩;refine Dp rfl rfl rfl rfl (wz (vs:=[(0,.string u8),(1,.int .i64 u9)]) (cs:= #[.string u8,.int .i64 u9]) rfl underlying128 adM atD rfl rfl) ?_
  refine Da rfl rfl rfl rfl (zR (vs:=[(0,.agg #[.string u8,.int .i64 u9])]) (cs:= #[.string u8,.int .i64 u9]) rfl underlying23 adM (by decide) rfl rfl) fun u10 g1 g2=>?_
  replace h:=h u10 g1 g2
  refine⟨_,zr.refl _,fun hdj=>?_⟩
  replace h:=h hdj
  refine Dg rfl rfl rfl rfl (je (s:=Builtin.append_ #[23,23] 23 #[Sl.v u7,Sl.v (⟨some ⟨u10,0,none⟩,1,1⟩:Sl)]) rfl rfl (fun _=>rfl) (qm _ h ?_))
  rintro v I ⟨u11,rfl,h⟩;refine zg underlying30 aee ?_;refine Dg rfl rfl rfl rfl (yR rfl aee rfl rfl rfl rfl (zD h fun I h=>?_))
  refine wH ?_
  refine qD (qd (AW.reg ?_));iterate 2 refine zp ?_
  refine z2 ?_;refine qk.head (fr':=[(2,.pointer (some ⟨u0,0,none⟩)),(4,.pointer u1),(5,.pointer (some ⟨u4,0,none⟩)),(6,.int .i64 u5),(19,.int .i64 (if 16<u5 then 16 else u5)),(20,.int .i64 (i64.wrap (u6+1)))]) ?_ FL
  exact hY40 _ _ h
 rintro fr I ⟨hl,h⟩;refine AW.weaken ?_ hl (HLe.refl _)
 unfold yr at h;refine z3 ?_;refine zp ?_;refine zc func54 h ?_;rintro v I ⟨u12,rfl,h⟩;refine zp ?_;refine zf underlying30 ty3 ?_;refine zs ty3 h fun I h=>?_;refine z4 ?_;refine zp ?_;refine zc func56 h ?_;rintro v I ⟨u13,rfl,h⟩;refine zf underlying30 wO ?_;refine zs wO h fun I h=>?_;refine z4 ?_;refine zp ?_;refine zc func54 h ?_;rintro v I ⟨u14,rfl,h⟩
 refine zp ?_;refine zc func54 h ?_;rintro v I ⟨u15,rfl,h⟩;refine zp ?_;refine zc func54 h ?_;rintro v I ⟨u16,rfl,h⟩;refine zp ?_;refine zc func54 h ?_;rintro v I ⟨u17,rfl,h⟩;refine zm (wz (vs:=[(0,.int .i64 u14),(1,.int .i64 u15),(2,.int .i64 u16),(3,.int .i64 u17)]) (cs:= #[.int .i64 u14,.int .i64 u15,.int .i64 u16,.int .i64 u17]) rfl underlying26 wA aqj rfl rfl) ?_
 refine zf underlying30 wA ?_;refine zs wA h fun I h=>?_;refine z4 ?_;refine zp ?_;refine zc func54 h ?_;rintro v I ⟨u18,rfl,h⟩;refine zp ?_;refine z2 ?_;refine AW.seqJ (fun fr I=>qo [(2,.pointer (some ⟨u0,0,none⟩)),(4,.pointer u1),(5,.pointer (some ⟨u4,0,none⟩)),(6,.int .i64 u5),(7,.int .i64 u18)] fr/\pX B ro u0 u4 u1 u5 u18 Q I) ?_ ?_
 rotate_left
 .refine z3 ?_;refine zp ?_;refine zm (al8 rfl rfl) ?_;refine zp ?_;refine z2 (AW.block ?_)
  refine qk.loop (fr':=[(2,.pointer (some ⟨u0,0,none⟩)),(4,.pointer u1),(5,.pointer (some ⟨u4,0,none⟩)),(6,.int .i64 u5),(7,.int .i64 u18),(53,.int .i64 (if 4096<u18 then 4096 else u18)),(54,.int .i64 0)]) ?_ FL
  refine h (fun u19 I=>qk _ _ _ _ _ _ [(2,.pointer (some ⟨u0,0,none⟩)),(4,.pointer u1),(5,.pointer (some ⟨u4,0,none⟩)),(6,.int .i64 u5),(7,.int .i64 u18),(53,.int .i64 (if 4096<u18 then 4096 else u18)),(54,.int .i64 u19)] I) ?_
  rintro u19 I Y34 hY34 h
  show AW _ _ _ _ _ _ _ _
  unfold jZ at h;refine z3 ?_;refine zp ?_;refine z2 (AW.seq ?_)
  refine zi h (fun h=>?_) fun h=>?_
  rotate_left
  .refine AW.exit ?_;refine qH (qH ?_);refine wB ?_
   refine qd ?_;exact⟨FL,h⟩
  refine AW.skip ?_;refine qd (AW.seq (AW.block ?_));refine AW.drawn2 (fun i=>([0,0,0,2,1,2,0,2]:List Nat).getD i 2) [(0,1),(0,5),(2,3),(2,4),(2,5)] [0,1,2,3,4] [5,6,7] mixed h (by decide+kernel) ?_
  clear h
  intro ψ I h
  refine zg underlying30 ajg ?_;obtain⟨u20,hc,h⟩:=h
  refine Dp rfl rfl rfl rfl (yQ rfl underlying27 rfl rfl hc) ?_
  refine zq ?_;refine Dg rfl rfl rfl rfl (qF rfl func55 rfl rfl rfl (qc.mono h ?_))
  rintro v I ⟨u21,rfl,h⟩;refine Da rfl rfl rfl rfl (zR (vs:=[(0,.string u21)]) (cs:= #[.string u21]) rfl underlying27 ty9 (by decide) rfl rfl) fun u22 g1 g2=>?_
  replace h:=h u22 g1 g2
  refine⟨_,zr.refl _,fun hdj=>?_⟩
  replace h:=h hdj
  refine Dg rfl rfl rfl rfl (je (s:=Builtin.append_ #[27,27] 27 #[Sl.v u20,Sl.v (⟨some ⟨u22,0,none⟩,1,1⟩:Sl)]) rfl rfl (fun _=>rfl) (qm _ h ?_))
  rintro v I ⟨u23,rfl,h⟩;refine zg underlying30 ajg ?_;refine Dg rfl rfl rfl rfl (yR rfl ajg rfl rfl rfl rfl (zD h fun I h=>?_))
  refine wH ?_
  refine qD (qd (AW.reg ?_));iterate 2 refine zp ?_
  refine z2 ?_;refine qk.head (fr':=[(2,.pointer (some ⟨u0,0,none⟩)),(4,.pointer u1),(5,.pointer (some ⟨u4,0,none⟩)),(6,.int .i64 u5),(7,.int .i64 u18),(53,.int .i64 (if 4096<u18 then 4096 else u18)),(54,.int .i64 (i64.wrap (u19+1)))]) ?_ FL
  exact hY34 _ _ h
 rintro fr I ⟨hl,h⟩;refine AW.weaken ?_ hl (HLe.refl _)
 unfold pX at h;refine z3 ?_;refine zp ?_;refine zc func54 h ?_;rintro v I ⟨u24,rfl,h⟩;refine zp ?_;refine z2 ?_;refine AW.seqJ (fun fr I=>qo [(2,.pointer (some ⟨u0,0,none⟩)),(4,.pointer u1),(5,.pointer (some ⟨u4,0,none⟩)),(6,.int .i64 u5),(7,.int .i64 u18),(8,.int .i64 u24)] fr/\jX B ro u0 u4 u1 u5 u18 u24 Q I) ?_ ?_
 rotate_left
 .refine z3 ?_;refine zp ?_;refine zm (al8 rfl rfl) ?_;refine zp ?_;refine z2 (AW.block ?_)
  refine qk.loop (fr':=[(2,.pointer (some ⟨u0,0,none⟩)),(4,.pointer u1),(5,.pointer (some ⟨u4,0,none⟩)),(6,.int .i64 u5),(7,.int .i64 u18),(8,.int .i64 u24),(67,.int .i64 (if 32<u24 then 32 else u24)),(68,.int .i64 0)]) ?_ FL
  refine h (fun u25 I=>qk _ _ _ _ _ _ [(2,.pointer (some ⟨u0,0,none⟩)),(4,.pointer u1),(5,.pointer (some ⟨u4,0,none⟩)),(6,.int .i64 u5),(7,.int .i64 u18),(8,.int .i64 u24),(67,.int .i64 (if 32<u24 then 32 else u24)),(68,.int .i64 u25)] I) ?_
  rintro u25 I Y26 hY26 h
  show AW _ _ _ _ _ _ _ _
  unfold jY at h;refine z3 ?_;refine zp ?_;refine z2 (AW.seq ?_)
  refine zi h (fun h=>?_) fun h=>?_
  rotate_left
  .refine AW.exit ?_;refine qH (qH ?_);refine wB ?_
   refine qd ?_;exact⟨FL,h⟩
  refine AW.skip ?_;refine qd (AW.seq (AW.block ?_));refine AW.drawn2 (fun i=>([0,0,0,2,0,2,0,2,0,1,2,0,2]:List Nat).getD i 2) [(0,1),(0,10),(2,3),(2,8),(2,9),(2,10),(3,5),(3,7),(3,8),(3,9),(3,10),(4,5),(4,8),(4,9),(4,10),(5,8),(5,9),(5,10),(6,7),(6,8),(6,9),(6,10),(8,9),(8,10)] [0,1,2,4,6,3,5,7,8,9] [10,11,12] mixed h (by decide+kernel) ?_
  clear h
  intro ψ I h
  refine zg underlying30 uQ ?_;obtain⟨u26,hc,h⟩:=h
  refine Dp rfl rfl rfl rfl (yQ rfl underlying28 rfl rfl hc) ?_
  iterate 3 refine zq ?_
  refine Dg rfl rfl rfl rfl (qF rfl func54 rfl rfl rfl (qc.mono h ?_))
  rintro v I ⟨u27,rfl,h⟩;refine Dg rfl rfl rfl rfl (qF rfl func54 rfl rfl rfl (qc.mono h ?_))
  rintro v I ⟨u28,rfl,h⟩;refine Dg rfl rfl rfl rfl (qF rfl func55 rfl rfl rfl (qc.mono h ?_))
  rintro v I ⟨u29,rfl,h⟩;refine Dp rfl rfl rfl rfl (wz (vs:=[(0,.int .i64 u27),(1,.int .i64 u28),(2,.string u29)]) (cs:= #[.int .i64 u27,.int .i64 u28,.string u29]) rfl underlying132 jD arJ rfl rfl) ?_
  refine Da rfl rfl rfl rfl (zR (vs:=[(0,.agg #[.int .i64 u27,.int .i64 u28,.string u29])]) (cs:= #[.int .i64 u27,.int .i64 u28,.string u29]) rfl underlying28 jD (by decide) rfl rfl) fun u30 g1 g2=>?_
  replace h:=h u30 g1 g2
  refine⟨_,zr.refl _,fun hdj=>?_⟩
  replace h:=h hdj
  refine Dg rfl rfl rfl rfl (je (s:=Builtin.append_ #[28,28] 28 #[Sl.v u26,Sl.v (⟨some ⟨u30,0,none⟩,1,1⟩:Sl)]) rfl rfl (fun _=>rfl) (qm _ h ?_))
  rintro v I ⟨u31,rfl,h⟩;refine zg underlying30 uQ ?_;refine Dg rfl rfl rfl rfl (yR rfl uQ rfl rfl rfl rfl (zD h fun I h=>?_))
  refine wH ?_
  refine qD (qd (AW.reg ?_));iterate 2 refine zp ?_
  refine z2 ?_;refine qk.head (fr':=[(2,.pointer (some ⟨u0,0,none⟩)),(4,.pointer u1),(5,.pointer (some ⟨u4,0,none⟩)),(6,.int .i64 u5),(7,.int .i64 u18),(8,.int .i64 u24),(67,.int .i64 (if 32<u24 then 32 else u24)),(68,.int .i64 (i64.wrap (u25+1)))]) ?_ FL
  exact hY26 _ _ h
 rintro fr I ⟨hl,h⟩;refine AW.weaken ?_ hl (HLe.refl _)
 unfold jX at h;refine z3 ?_;refine zp ?_;refine zc func54 h ?_;rintro v I ⟨u32,rfl,h⟩;refine zf underlying30 ty3 ?_;refine zs ty3 h fun I h=>?_;refine z2 (AW.seq (z3 ?_))
 refine zp ?_;refine zc func57 h ?_;rintro v I ⟨u33,rfl,h⟩;iterate 2 refine zp ?_
 refine qO 4 (!(decide (u33=0))) (qu decide_eq_true_iff) h (fun fr I=> ∃(u34:Bool),qo [(2,.pointer (some ⟨u0,0,none⟩)),(5,.pointer (some ⟨u4,0,none⟩)),(6,.int .i64 u5),(7,.int .i64 u18),(8,.int .i64 u24),(93,.bool u34)] fr/\xu B ro u0 u4 u5 u18 u24 Q u34 I) ?_ ?_ ?_
 .intro h e3 hk3;iterate 3 refine zn e3 ?_
  refine zk e3 ?_;exact hk3 _ _ ⟨_,FL,h⟩
 .intro h e3 hk3;refine zy e3 ?_;refine Lyb rfl rfl rfl rfl e3 (qF rfl func58 rfl rfl rfl (qc.mono h ?_))
  rintro v I ⟨u35,rfl,h⟩;refine zy e3 ?_;refine zk e3 ?_;exact hk3 _ _ ⟨_,FL,h⟩
 rintro fr I ⟨u34,hl,h⟩;unfold xu at h;refine Lfr hl ?_
 refine zp ?_;refine wW 3 u34 [(2,.pointer (some ⟨u0,0,none⟩)),(5,.pointer (some ⟨u4,0,none⟩)),(7,.int .i64 u18),(8,.int .i64 u24),(97,.bool (u34 || (decide (16<u5))))] ?_ ?_ ?_
 .intro e8 hk8
  iterate 2 refine zn e8 ?_
  refine zk e8 ?_;exact hk8 _ (Fe e8)
 .intro e8 hk8
  refine zy e8 ?_;refine zy e8 ?_;refine zk e8 ?_;exact hk8 _ (Fe e8)
 intro fr hl
 refine Lfr hl ?_
 refine zp ?_;refine wW 3 (u34 || (decide (16<u5))) [(2,.pointer (some ⟨u0,0,none⟩)),(5,.pointer (some ⟨u4,0,none⟩)),(8,.int .i64 u24),(101,.bool ((u34 || (decide (16<u5))) || (decide (4096<u18))))] ?_ ?_ ?_
 .intro e12 hk12
  iterate 2 refine zn e12 ?_
  refine zk e12 ?_;exact hk12 _ (Fe e12)
 .intro e12 hk12
  refine zy e12 ?_;refine zy e12 ?_;refine zk e12 ?_;exact hk12 _ (Fe e12)
 intro fr hl
 refine Lfr hl ?_
 refine zp ?_;refine wW 3 ((u34 || (decide (16<u5))) || (decide (4096<u18))) [(2,.pointer (some ⟨u0,0,none⟩)),(5,.pointer (some ⟨u4,0,none⟩)),(105,.bool (((u34 || (decide (16<u5))) || (decide (4096<u18))) || (decide (32<u24))))] ?_ ?_ ?_
 .intro e16 hk16
  iterate 2 refine zn e16 ?_
  refine zk e16 ?_;exact hk16 _ (Fe e16)
 .intro e16 hk16
  refine zy e16 ?_;refine zy e16 ?_;refine zk e16 ?_;exact hk16 _ (Fe e16)
 intro fr hl
 refine Lfr hl ?_
 refine z2 ?_;refine AW.iff rfl (zG (zG (zG Iff.rfl decide_eq_true_iff) decide_eq_true_iff) decide_eq_true_iff) h (fun h=>?_) (fun h=>?_)
 rotate_left
 .refine AW.skip ?_;refine qd (z3 ?_);obtain⟨u36,u37,u38,u39,u40,u41,u42,u43,u44,u45,u46,u47,hc,h⟩:=h
  refine zl (wY rfl underlying30 rfl qM rfl hc ?_)
  refine zs qM h fun I h=>?_;refine zp ?_;refine z2 ?_;refine AW.ret ?_;obtain⟨u48,u49,u50,u51,u52,u53,u54,u55,u56,u57,u58,u59,hc0,h⟩:=h
  exact bRM results15 (wC (vV rfl underlying30 rfl qM hc0) (wC (afF rfl) vT)) ⟨_,_,_,_,_,_,_,_,_,_,_,_,_,rfl,h⟩
 refine z3 ?_;refine zm (wz (vs:=[]) (cs:= #[.int .i64 0,.int .i64 0,Sl.v (⟨none,0,0⟩:Sl),.int .i64 0,Sl.v (⟨none,0,0⟩:Sl),.int .i64 0,.int .i64 0,.int .i64 0,.int .i64 0,Sl.v (⟨none,0,0⟩:Sl),Sl.v (⟨none,0,0⟩:Sl),.int .i64 0]) rfl underlying30 qM aeX rfl (by kernel_rfl)) ?_;refine zs qM h fun I h=>?_;refine zp ?_;refine z2 ?_;refine AW.ret ?_;refine qi ?_
 obtain⟨u60,u61,u62,u63,u64,u65,u66,u67,u68,u69,u70,u71,hc0,h⟩:=h
 exact bRM results15 (wC (vV rfl underlying30 rfl qM hc0) (wC (afF rfl) vT)) ⟨_,_,_,_,_,_,_,_,_,_,_,_,_,rfl,h⟩
end G
namespace SL
open Go
variable{ro I:AH}{tag:Nat->Nat}
variable{K:AH->Prop}
theorem aq3{b i:Nat}{v:Value}{vs:List Value}(h:stN ((⟨b,0,none⟩:Addr).add (i*1)) (fun I=>stN ⟨b,0,none⟩ K vs (i+1) I) [v] 0 I):stN ⟨b,0,none⟩ K (v::vs) i I:=by
 have e:((⟨b,0,none⟩:Addr).add (i*1)).add 0=(⟨b,0,none⟩:Addr).add i:=by rw[vn,vn,vn,Nat.mul_one,Nat.add_zero]
 unfold stN at h⊢
 rw[e]at h
 exact h
theorem Row.stPre{r:Nat}{e:TypeId}{b n c:Nat}:∀ (vs:List Value) (i:Nat) (l:List Value) (I:AH),Row tag I r e ⟨some ⟨b,0,none⟩,n,c⟩ l->Sep ro I->i+vs.length<=l.length->(∀v∈vs,qh v=true)->
  (∀I',qe [r] ro tag I tag I'->Row tag I' r e ⟨some ⟨b,0,none⟩,n,c⟩ (l.take i++vs++l.drop (i+vs.length))->K I')->stN ⟨b,0,none⟩ K vs i I:=by
 intro vs
 induction vs with
 | nil=>
  intro i l I h hs _ _ hK
  refine hK I (qe.refl hs) ?_
  simpa using h
 | cons v vs ih=>
  intro i l I h hs hl hv hK
  simp only[List.length_cons]at hl
  refine aq3 ?_
  refine h.st hs rfl (by omega) (hv v (by simp)) fun I1 st1 h1=>?_
  refine ih (i+1) (l.set i v) I1 h1 st1.sep (by simp;omega) (fun w hw=>hv w (by simp[hw])) fun I2 st2 h2=>?_
  refine hK I2 (st1.trans st2) ?_
  have e1:(l.set i v).take (i+1)=l.take i++[v]:=by
   rw[List.take_add_one,List.take_set_of_le (Nat.le_refl _),List.getElem?_set_self (by omega)];try rfl
  have e2:(l.set i v).drop (i+1+vs.length)=l.drop (i+(v::vs).length):=by
   rw[List.drop_set_of_lt (by omega)];congr 1;simp;omega
  rw[e1,e2]at h2
  simpa using h2
end SL
namespace Zt
open Go SL G Pa Wi
variable{B:World}{ro I I':AH}{tag tag':Nat->Nat}
def ahi(e:Int×Int×Str):List Value:=[vI e.1,vI e.2.1,Pa.vS e.2.2]
structure ata(ro I:AH)(rs ds ns es:Sl)(x:Rep):Prop where
 res:SL.jE ro I 2 rs (x.results.map uj)
 data:SL.zw ro I ds (x.data.map vU)
 names:SL.zw ro I ns (x.names.map Pa.vS)
 evs:SL.jE ro I 3 es (x.events.map ahi)
abbrev CR:List Nat:=[0,1,2,30]
theorem ane{rs ds ns es:Sl}{x:Rep}{Q:Sl->Int->AH->Prop}(hx:∀ tag' I',StepS CR ro tag I tag' I'->ata ro I' rs ds ns es x)(hsm:ahf x)(hb: -9223372036854775808<=x.bad)
  (hno:aar x=none->∀ tag' I',StepS CR ro tag I tag' I'->Q ⟨none,0,0⟩ 170 I')
  (hyes:∀ b,aar x=some b->∀ s tag' I',StepS CR ro tag I tag' I'->Row tag' I' 6 5 s (b.map vU)->Q s 0 I'):acm B ro x.code x.session rs x.bad ds x.ver x.ctr x.own x.kids ns es x.epoch I Q:=by
 refine aiP fun hs=>?_
 unfold acE
 have hx0:=hx tag I (StepS.refl hs)
 have lr:rs.len=x.results.length:=by rw[hx0.res.1,List.length_map]
 have ln:ns.len=x.names.length:=by rw[hx0.names.1,List.length_map]
 have le:es.len=x.events.length:=by rw[hx0.evs.1,List.length_map]
 refine qj (tag:=tag) 2 hs fun X tag1 I1 st1 r1=>?_
 have s1:StepS CR ro tag I tag1 I1:=(st1 []).s (by simp)
 obtain⟨p,hp,hg⟩:=r1.ptr (st1 []).sep (by simp)
 cases hp
 have no:¬ adm x->Q ⟨none,0,0⟩ 170 I1:=fun h=>hno (by unfold aar;rw[if_neg h]) tag1 I1 s1
 have n7:¬ adm x->kP B ro X Q true I1:=fun h=>by unfold kP;rw[if_pos rfl];exact no h
 have n5:¬ adm x->kQ B ro X Q true I1:=fun h=>by unfold kQ;rw[if_pos rfl];exact n7 h
 have n3:¬ adm x->kR B ro X Q true I1:=fun h=>by unfold kR;rw[if_pos rfl];exact n5 h
 refine⟨rs,hg 2 _ rfl,?_⟩
 by_cases h1:16<x.results.length
 .rw[if_pos (by omega)];exact n3 fun k=>by have:=k.1;omega
 rw[if_neg (by omega)]
 refine⟨ns,hg 9 _ rfl,?_⟩
 by_cases h2:4096<x.names.length
 .rw[show decide ((4096:Int)<(ns.len:Int))=true by simp;omega]
  exact n3 fun k=>by have:=k.2.1;omega
 rw[show decide ((4096:Int)<(ns.len:Int))=false by simp;omega]
 unfold kR
 rw[if_neg (by simp)]
 refine⟨es,hg 10 _ rfl,?_⟩
 by_cases h3:32<x.events.length
 .rw[show decide ((32:Int)<(es.len:Int))=true by simp;omega]
  exact n5 fun k=>by have:=k.2.2.1;omega
 rw[show decide ((32:Int)<(es.len:Int))=false by simp;omega]
 unfold kQ
 rw[if_neg (by simp)]
 refine⟨x.bad,hg 3 _ rfl,?_⟩
 by_cases h5:4611686018427387903<=x.bad
 .rw[show decide ((4611686018427387903:Int)<=x.bad)=true by simpa using h5]
  exact n7 fun k=>by have:=k.2.2.2.2.1;omega
 rw[show decide ((4611686018427387903:Int)<=x.bad)=false by simpa using h5]
 unfold kP
 rw[if_neg (by simp)]
 have b1:x.results.length<=16:=by omega
 have b2:x.names.length<=4096:=by omega
 have b3:x.events.length<=32:=by omega
 refine ah7 (tag:=tag1) (r:=30) fun W tag2 I2 st2 w2=>?_
 have r2:=r1.keep (st2 [])
 obtain⟨p,hp,hg⟩:=r2.ptr (st2 []).sep (by simp)
 cases hp
 refine⟨x.code,by simpa using hg 0 _ rfl,x.session,hg 1 _ rfl,rs,hg 2 _ rfl,?_⟩
 have e2:[x.code,x.session,(rs.len:Int)]=[x.code,x.session,(x.results.length:Int)]:=by rw[lr]
 refine afi (tag:=tag2) (a:=([],false)) [x.code,x.session,(rs.len:Int)] w2 (by decide) (st2 []).sep (by simp) fun tag3 I3 st3 w3=>?_
 rw[e2]at w3
 have r3:=r2.keep st3 (by decide)
 have s3:StepS CR ro tag I tag3 I3:=s1.trans (((st2 []).s (by simp)).trans (st3.s (by decide)))
 obtain⟨p,hp,hg⟩:=r3.ptr st3.sep (by simp)
 cases hp
 refine⟨rs,hg 2 _ rfl,?_⟩
 have last:∀ tag4 I4,StepS CR ro tag I tag4 I4->Row tag4 I4 2 30 ⟨some ⟨X,0,none⟩,12,12⟩ [vI x.code,vI x.session,Sl.v rs,vI x.bad,Sl.v ds,vI x.ver,vI x.ctr,vI x.own,vI x.kids,Sl.v ns,Sl.v es,vI x.epoch]->vl tag4 I4 30 W (wr6 x).1 (wr6 x).2->jT B ro X (some ⟨W,0,none⟩) Q I4:=fun tag4 I4 s4 r4 w4=>by
  unfold jT
  obtain⟨p,hp,hg⟩:=r4.ptr s4.sep (by simp)
  cases hp
  have l6:=asn x hsm b1 b2 b3
  refine⟨x.epoch,hg 11 _ rfl,?_⟩
  refine afi (tag:=tag4) (a:=wr6 x) [x.epoch] w4 (by decide) s4.sep (by simp;omega) fun tag5 I5 st5 w5=>?_
  have l7:(aet x).1.length<=5000000009:=by have:=kN (wr6 x) x.epoch;unfold aet;omega
  refine apm (a:=aet x) w5 st5.sep (by omega) (fun hbad=>?_) fun hgood s tag6 I6 st6 r6=>?_
  .rw[if_pos (by decide)]
   refine hno ?_ tag5 I5 (s4.trans (st5.s (by decide)))
   unfold aar
   rw[if_neg]
   intro k
   rw[amJ k hsm]at hbad
   cases hbad
  .rw[if_neg (by decide)]
   by_cases k:adm x
   .rw[amJ k hsm]at r6
    exact hyes _ (by unfold aar;rw[if_pos k]) s tag6 I6 (s4.trans ((st5.s (by decide)).trans ((st6 []).s (by simp)))) r6
   .have:=aso k b1 b2 b3 (by omega)
    rw[hgood]at this
    cases this
 have evs:∀ k j tag4 I4,j+k=x.events.length->StepS CR ro tag I tag4 I4->Row tag4 I4 2 30 ⟨some ⟨X,0,none⟩,12,12⟩ [vI x.code,vI x.session,Sl.v rs,vI x.bad,Sl.v ds,vI x.ver,vI x.ctr,vI x.own,vI x.kids,Sl.v ns,Sl.v es,vI x.epoch]->vl tag4 I4 30 W ((x.events.take j).foldl wev (wr5 x)).1 ((x.events.take j).foldl wev (wr5 x)).2->lfpD (jU B ro X (some ⟨W,0,none⟩) es Q) (j:Int) I4:=by
  intro k
  induction k with
  | zero=>
   intro j tag4 I4 hj s4 r4 w4
   refine lfpD.intro ?_
   unfold jU
   rw[if_neg (by omega)]
   rw[List.take_of_length_le (by omega)]at w4
   exact last tag4 I4 s4 r4 w4
  | succ k ih=>
   intro j tag4 I4 hj s4 r4 w4
   have hjl:j<x.events.length:=by omega
   obtain⟨q,hq,hc⟩:=(hx tag4 I4 s4).evs.at (j:=j) (x:=ahi x.events[j]) (by rw[List.getElem?_map,List.getElem?_eq_getElem hjl];try rfl)
   have hlen:=amG x hsm b1 b2 b3 j
   have hel:=hsm.evs x.events[j] (List.getElem_mem hjl)
   have etk:(x.events.take (j+1)).foldl wev (wr5 x)=wev ((x.events.take j).foldl wev (wr5 x)) x.events[j]:=by
    rw[List.take_add_one,List.getElem?_eq_getElem hjl,List.foldl_append];try rfl
   generalize x.events[j]=e at hc hel etk
   generalize hA:(x.events.take j).foldl wev (wr5 x)=A at w4 hlen etk
   refine lfpD.intro ?_
   unfold jU
   rw[if_pos (by omega)]
   refine⟨q,hq,by omega,by omega,e.1,e.2.1,S e.2.2,by rw[Int.toNat_natCast];exact hc,?_⟩
   refine xh (tag:=tag4) 0 s4.sep rfl (by simp[qh]) fun Y tag5 I5 st5 r5=>?_
   have h5:=(st5 []).sep
   obtain⟨p,hp,hg⟩:=r5.ptr h5 (by simp)
   cases hp
   refine⟨e.1,by simpa using hg 0 _ rfl,e.2.1,hg 1 _ rfl,?_⟩
   refine afi (tag:=tag5) (a:=A) [e.1,e.2.1] (w4.keep (st5 [])) (by decide) h5 (by simp;omega) fun tag6 I6 st6 w6=>?_
   have l6:=aii [e.1,e.2.1] A
   simp only[List.length_cons,List.length_nil]at l6
   have r6:=r5.keep st6 (by decide)
   obtain⟨p,hp,hg⟩:=r6.ptr st6.sep (by simp)
   cases hp
   refine⟨S e.2.2,hg 2 _ rfl,?_⟩
   refine apG (tag:=tag6) (a:=[e.1,e.2.1].foldl wS A) e.2.2 w6 (by decide) st6.sep (by omega) fun tag7 I7 st7 w7=>?_
   rw[Pa.inc j (by omega)]
   have s47:StepS CR ro tag4 I4 tag7 I7:=((st5 []).s (by simp)).trans ((st6.s (by decide)).trans (st7.s (by decide)))
   refine ih (j+1) tag7 I7 (by omega) (s4.trans s47) (((r4.keep (st5 [])).keep st6 (by decide)).keep st7 (by decide)) ?_
   rw[etk]
   exact w7
 have mid:∀ tag4 I4,StepS CR ro tag I tag4 I4->Row tag4 I4 2 30 ⟨some ⟨X,0,none⟩,12,12⟩ [vI x.code,vI x.session,Sl.v rs,vI x.bad,Sl.v ds,vI x.ver,vI x.ctr,vI x.own,vI x.kids,Sl.v ns,Sl.v es,vI x.epoch]->vl tag4 I4 30 W (wr2 x).1 (wr2 x).2->jV B ro X (some ⟨W,0,none⟩) Q I4:=fun tag4 I4 s4 r4 w4=>by
  unfold jV
  obtain⟨p,hp,hg⟩:=r4.ptr s4.sep (by simp)
  cases hp
  have l2:=anN x hsm b1
  have hd:=hsm.data
  refine⟨x.bad,hg 3 _ rfl,?_⟩
  rw[show i64.wrap (x.bad+1)=x.bad+1 from SL.wb (by omega) (by omega)]
  refine afi (tag:=tag4) (a:=wr2 x) [x.bad+1] w4 (by decide) s4.sep (by simp;omega) fun tag5 I5 st5 w5=>?_
  have l3:=kN (wr2 x) (x.bad+1)
  have r5:=r4.keep st5 (by decide)
  have s5:=s4.trans (st5.s (C:=CR) (by decide))
  obtain⟨p,hp,hg⟩:=r5.ptr st5.sep (by simp)
  cases hp
  refine⟨ds,hg 4 _ rfl,?_⟩
  refine as8 (tag:=tag5) (a:=wS (wr2 x) (x.bad+1)) x.data w5 (by decide) st5.sep (by omega) (fun tag' I' st=>(hx tag' I' (s5.trans (st.s (by decide)))).data) fun tag6 I6 st6 w6=>?_
  have r6:=r5.keep st6 (by decide)
  have s6:=s5.trans (st6.s (C:=CR) (by decide))
  obtain⟨p,hp,hg⟩:=r6.ptr st6.sep (by simp)
  cases hp
  have l4:=anO x hsm b1
  refine⟨x.ver,hg 5 _ rfl,x.ctr,by rw[adD];exact hg 6 _ rfl,x.own,by rw[adD];exact hg 7 _ rfl,x.kids,by rw[adD];exact hg 8 _ rfl,ns,hg 9 _ rfl,?_⟩
  have l4':(wr3 x).1.length<=20000000:=by
   have:=yF (wS (wr2 x) (x.bad+1)) x.data
   unfold wr3;omega
  have e4:[x.ver,x.ctr,x.own,x.kids,(ns.len:Int)]=[x.ver,x.ctr,x.own,x.kids,(x.names.length:Int)]:=by rw[ln]
  refine afi (tag:=tag6) (a:=wr3 x) [x.ver,x.ctr,x.own,x.kids,(ns.len:Int)] w6 (by decide) st6.sep (by simp;omega) fun tag7 I7 st7 w7=>?_
  rw[e4]at w7
  have r7:=r6.keep st7 (by decide)
  have s7:=s6.trans (st7.s (C:=CR) (by decide))
  obtain⟨p,hp,hg⟩:=r7.ptr st7.sep (by simp)
  cases hp
  refine⟨ns,hg 9 _ rfl,?_⟩
  have c:x.names.length*(1048576+9)<=4096*1048585:=Nat.mul_le_mul_right _ b2
  refine aq0 (m:=1048576) (a:=wr4 x) (ps:=x.names) w7 (by decide) st7.sep hsm.names (by omega) (fun tag' I' st=>(hx tag' I' (s7.trans (st.s (by decide)))).names) fun tag8 I8 st8 w8=>?_
  have r8:=r7.keep st8 (by decide)
  have s8:=s7.trans (st8.s (C:=CR) (by decide))
  obtain⟨p,hp,hg⟩:=r8.ptr st8.sep (by simp)
  cases hp
  refine⟨es,hg 10 _ rfl,?_⟩
  have l5:=aeM (m:=1048576) x.names (wr4 x) hsm.names
  rw[le]
  refine afi (tag:=tag8) (a:=x.names.foldl wq (wr4 x)) [(x.events.length:Int)] w8 (by decide) st8.sep (by simp;omega) fun tag9 I9 st9 w9=>?_
  have r9:=r8.keep st9 (by decide)
  obtain⟨p,hp,hg⟩:=r9.ptr st9.sep (by simp)
  cases hp
  refine⟨es,hg 10 _ rfl,?_⟩
  exact evs _ 0 tag9 I9 (Nat.zero_add _) (s8.trans (st9.s (by decide))) r9 (by rw[List.take_zero];exact w9)
 suffices∀k j tag4 I4,j+k=x.results.length->StepS CR ro tag I tag4 I4->Row tag4 I4 2 30 ⟨some ⟨X,0,none⟩,12,12⟩ [vI x.code,vI x.session,Sl.v rs,vI x.bad,Sl.v ds,vI x.ver,vI x.ctr,vI x.own,vI x.kids,Sl.v ns,Sl.v es,vI x.epoch]->vl tag4 I4 30 W ((x.results.take j).foldl abh (wr1 x)).1 ((x.results.take j).foldl abh (wr1 x)).2->lfpD (jW B ro X (some ⟨W,0,none⟩) rs Q) (j:Int) I4 from
  this _ 0 tag3 I3 (Nat.zero_add _) s3 r3 (by rw[List.take_zero];exact w3)
 intro k
 induction k with
 | zero=>
  intro j tag4 I4 hj s4 r4 w4
  refine lfpD.intro ?_
  unfold jW
  rw[if_neg (by omega)]
  rw[List.take_of_length_le (by omega)]at w4
  exact mid tag4 I4 s4 r4 w4
 | succ k ih=>
  intro j tag4 I4 hj s4 r4 w4
  have hjl:j<x.results.length:=by omega
  obtain⟨q,hq,hc⟩:=(hx tag4 I4 s4).res.at (j:=j) (x:=uj x.results[j]) (by rw[List.getElem?_map,List.getElem?_eq_getElem hjl];try rfl)
  have hlen:=alt x hsm b1 j
  have hel:=hsm.res x.results[j] (List.getElem_mem hjl)
  have etk:(x.results.take (j+1)).foldl abh (wr1 x)=abh ((x.results.take j).foldl abh (wr1 x)) x.results[j]:=by
   rw[List.take_add_one,List.getElem?_eq_getElem hjl,List.foldl_append];try rfl
  generalize x.results[j]=e at hc hel etk
  generalize hA:(x.results.take j).foldl abh (wr1 x)=A at w4 hlen etk
  refine lfpD.intro ?_
  unfold jW
  rw[if_pos (by omega)]
  refine⟨q,hq,by omega,by omega,S e.1,e.2,by rw[Int.toNat_natCast];exact hc,?_⟩
  refine xh (tag:=tag4) 0 s4.sep rfl (by simp[qh]) fun Y tag5 I5 st5 r5=>?_
  have h5:=(st5 []).sep
  obtain⟨p,hp,hg⟩:=r5.ptr h5 (by simp)
  cases hp
  refine⟨S e.1,by simpa using hg 0 _ rfl,?_⟩
  refine apG (tag:=tag5) (a:=A) e.1 (w4.keep (st5 [])) (by decide) h5 (by omega) fun tag6 I6 st6 w6=>?_
  have l6:=yF A e.1
  have r6:=r5.keep st6 (by decide)
  obtain⟨p,hp,hg⟩:=r6.ptr st6.sep (by simp)
  cases hp
  refine⟨e.2,hg 1 _ rfl,?_⟩
  refine afi (tag:=tag6) (a:=wq A e.1) [e.2] w6 (by decide) st6.sep (by simp;omega) fun tag7 I7 st7 w7=>?_
  rw[Pa.inc j (by omega)]
  have s47:StepS CR ro tag4 I4 tag7 I7:=((st5 []).s (by simp)).trans ((st6.s (by decide)).trans (st7.s (by decide)))
  refine ih (j+1) tag7 I7 (by omega) (s4.trans s47) (((r4.keep (st5 [])).keep st6 (by decide)).keep st7 (by decide)) ?_
  rw[etk]
  exact w7
end Zt
namespace SL
open Go
variable{ro I:AH}{tag:Nat->Nat}
variable{K:AH->Prop}
theorem asp{b o:Nat}:∀ (vs:List Value) (i:Nat) {I:AH},stN ⟨b,0,none⟩ K vs (o+i) I->stN ((⟨b,0,none⟩:Addr).add o) K vs i I:=by
 intro vs
 induction vs with
 | nil=>intro i I h;exact h
 | cons v vs ih=>
  intro i I h
  unfold stN at h⊢
  rw[adD]
  exact stN_mono' h fun I h=>by
   have:=ih (i+1) (I:=I) (by rw[show o+(i+1)=o+i+1 by omega];exact h)
   exact this
where
 stN_mono' {a:Addr} {v:Value} {K K':AH->Prop} {I:AH} (h:qh v=true/\a.spot=none/\∃ c e fz,I a.block=some (.cells c e fz)/\a.off<c.size/\¬ (fz.1<=a.off/\a.off<fz.2)/\K (upd I a.block (.cells (c.setIfInBounds a.off v) e fz)))
   (hk:∀ I,K I->K' I):qh v=true/\a.spot=none/\∃ c e fz,I a.block=some (.cells c e fz)/\a.off<c.size/\¬ (fz.1<=a.off/\a.off<fz.2)/\K' (upd I a.block (.cells (c.setIfInBounds a.off v) e fz)):=by
  obtain⟨h1,h2,c,e,fz,h3,h4,h5,h6⟩:=h
  exact⟨h1,h2,c,e,fz,h3,h4,h5,hk _ h6⟩
theorem Row.stAt{r:Nat}{e:TypeId}{b n c:Nat}(vs:List Value)(i:Nat){l:List Value}(h:Row tag I r e ⟨some ⟨b,0,none⟩,n,c⟩ l)(hs:Sep ro I)(hl:i+vs.length<=l.length)(hv:∀ v∈vs,qh v=true)
  (hK:∀ I',qe [r] ro tag I tag I'->Row tag I' r e ⟨some ⟨b,0,none⟩,n,c⟩ (l.take i++vs++l.drop (i+vs.length))->K I'):stN ((⟨b,0,none⟩:Addr).add i) K vs 0 I:=
 asp vs 0 (h.stPre vs i l I hs hl hv hK)
end SL
namespace Wi
open Go SL G Zt
variable{B:World}{ro I I':AH}{tag tag':Nat->Nat}
variable{τ:AH}{A b q r r':Nat}{x:Rd}{s:Sl}{l:Str}
theorem jP.del(h:jP tag I q s l)(hb:tag b≠q):jP tag (SL.del I b) q s l:=by
 unfold jP at h⊢
 rcases h with h | h
 .exact .inl h
 .obtain⟨c,o,cs,h1,h2,h3,h4⟩:=h
  exact .inr ⟨c,o,cs,h1,h2,by unfold SL.del;rw[if_neg (fun e=>hb (by rw[<-e];exact h2))];exact h3,h4⟩
theorem jz.del(h:jz tag I r A x)(h1:r≠tag b)(h2:tag b≠6):jz tag (SL.del I b) r A x:=by
 obtain⟨s,a,c⟩:=h
 exact⟨s,a.del rfl h1,c.1.del h2,c.2⟩
theorem jP.back(h:jP tag' τ q s l)(hd:qP (SL.one I b) τ)(hb:∃ o,I b=some o):jP (setTag tag' b r') (join (SL.one I b) τ) q s l:=by
 unfold jP at h⊢
 rcases h with h | h
 .exact .inl h
 .obtain⟨c,o,cs,h1,h2,h3,h4⟩:=h
  have hcb:c≠b:=fun e=>by
   obtain⟨ob,ho⟩:=hb
   have:=hd b ob (by unfold SL.one;rw[if_pos rfl];exact ho)
   rw[<-e,h3]at this;cases this
  exact .inr ⟨c,o,cs,h1,by unfold setTag;rw[if_neg hcb];exact h2,by unfold join SL.one;rw[if_neg hcb];exact h3,h4⟩
theorem jz.back(h:jz tag' τ r A x)(hd:qP (SL.one I b) τ)(hb:∃ o,I b=some o):jz (setTag tag' b r') (join (SL.one I b) τ) r A x:=by
 obtain⟨s,a,c⟩:=h
 exact⟨s,a.back hd hb,c.1.back hd hb,c.2⟩
end Wi
namespace SL
open Go
variable{ro I:AH}{tag:Nat->Nat}
theorem Row.again{r:Nat}{e:TypeId}{b n c:Nat}{l:List Value}{tag1:Nat->Nat}{τ:AH}(h:Row tag I r e ⟨some ⟨b,0,none⟩,n,c⟩ l)(hd:qP (SL.one I b) τ):Row (setTag tag1 b (tag b)) (join (SL.one I b) τ) r e ⟨some ⟨b,0,none⟩,n,c⟩ l:=by
 rcases h with⟨e,_⟩ | ⟨d,cs,ha,ht,hs,hx⟩
 .cases e
 .cases ha
  exact .inr ⟨b,cs,rfl,by simp[setTag,ht],by unfold join SL.one;rw[if_pos rfl,hs],hx⟩
end SL
namespace Zt
open Go SL G Pa Wi
variable{B:World}{ro I I':AH}{tag tag':Nat->Nat}
theorem atW:qp prog 128 (.agg #[.string ByteArray.empty,.int .i64 0]) 2 24:=qp.of (by kernel_rfl)
theorem aoA:qp prog 132 (.agg #[.int .i64 0,.int .i64 0,.string ByteArray.empty]) 3 32:=qp.of (by kernel_rfl)
theorem aiE{n m:Nat}:(if(m:Int)<(n:Int)then(m:Int)else(n:Int))=((min n m:Nat):Int):=by
 split<;>omega
structure aiF(tag:Nat->Nat)(I:AH)(q:Nat)(rs ds ns es:Sl)(x:Rep):Prop where
 res:qq tag I q 128 2 rs (x.results.map uj)
 data:Row tag I 6 5 ds (x.data.map vU)
 names:Row tag I (q+1) 9 ns (x.names.map Pa.vS)
 evs:qq tag I (q+2) 132 3 es (x.events.map ahi)
theorem aiF.keepS{C:List Nat}{q:Nat}{rs ds ns es:Sl}{x:Rep}(h:aiF tag I q rs ds ns es x)(k:StepS C ro tag I tag' I')(h0:q%64∉C:=by decide)(h1:(q+1)%64∉C:=by decide)(h2:(q+2)%64∉C:=by decide)(h6:6∉C:=by decide):aiF tag' I' q rs ds ns es x:=
 ⟨qq.keepS h.res k h0,h.data.keepS k h6,h.names.keepS k h1,qq.keepS h.evs k h2⟩
abbrev CG(q:Nat):List Nat:=[0,2,3,31,q,q+1,q+2]
theorem anf{a0:Sl}{b:Str}{q:Nat}{Q:Int->Int->Sl->Int->Sl->Int->Int->Int->Int->Sl->Sl->Int->Int->AH->Prop}(hq:q+2<64)(hq7:7<=q)(hq31:q∉[29,30,31])(h:SL.zw ro I a0 (b.map vU))(hl:b.length<=140737488355328)
  (hno:aff b=none->∀ tag' I',StepS (CG q) ro tag I tag' I'->Q 0 0 ⟨none,0,0⟩ 0 ⟨none,0,0⟩ 0 0 0 0 ⟨none,0,0⟩ ⟨none,0,0⟩ 0 13 I')
  (hyes:∀ x,aff b=some x->∀ rs ds ns es tag' I',StepS (CG q) ro tag I tag' I'->aiF tag' I' q rs ds ns es x->Q x.code x.session rs x.bad ds x.ver x.ctr x.own x.kids ns es x.epoch 0 I'):acn B ro a0 I Q:=by
 refine aiQ fun hs=>?_
 unfold acF
 simp only[List.mem_cons,List.not_mem_nil,or_false,not_or]at hq31
 have q0:q%64=q:=Nat.mod_eq_of_lt (by omega)
 have q1:(q+1)%64=q+1:=Nat.mod_eq_of_lt (by omega)
 have q2:(q+2)%64=q+2:=Nat.mod_eq_of_lt (by omega)
 obtain⟨A1,e1⟩:∃ A,qR ⟨b,0⟩=A:=⟨_,rfl⟩
 obtain⟨A2,e2⟩:∃ A,qR A1.2=A:=⟨_,rfl⟩
 obtain⟨A3,e3⟩:∃ A,qR A2.2=A:=⟨_,rfl⟩
 obtain⟨A4,e4⟩:∃ A,aie (min A3.1 16) A3.2=A:=⟨_,rfl⟩
 obtain⟨A5,e5⟩:∃ A,qR A4.2=A:=⟨_,rfl⟩
 obtain⟨A6,e6⟩:∃ A,wo A5.2=A:=⟨_,rfl⟩
 obtain⟨A7,e7⟩:∃ A,qR A6.2=A:=⟨_,rfl⟩
 obtain⟨A8,e8⟩:∃ A,qR A7.2=A:=⟨_,rfl⟩
 obtain⟨A9,e9⟩:∃ A,qR A8.2=A:=⟨_,rfl⟩
 obtain⟨B0,f0⟩:∃ A,qR A9.2=A:=⟨_,rfl⟩
 obtain⟨B1,f1⟩:∃ A,qR B0.2=A:=⟨_,rfl⟩
 obtain⟨B2,f2⟩:∃ A,ad8 (min B1.1 4096) B1.2=A:=⟨_,rfl⟩
 obtain⟨B3,f3⟩:∃ A,qR B2.2=A:=⟨_,rfl⟩
 obtain⟨B4,f4⟩:∃ A,aif (min B3.1 32) B3.2=A:=⟨_,rfl⟩
 obtain⟨B5,f5⟩:∃ A,qR B4.2=A:=⟨_,rfl⟩
 have hR:ve b=⟨⟨A1.1,A2.1,A4.1,(A5.1:Int) - 1,A6.1,A7.1,A8.1,A9.1,B0.1,B2.1,B4.1,B5.1⟩,A3.1,B1.1,B3.1,B5.2⟩:=by
  unfold ve
  simp only[e1,e2,e3,e4,e5,e6,e7,e8,e9,f0,f1,f2,f3,f4,f5]
 have lt5:A5.1<4611686018427387904:=by rw[<-e5];exact aqY _
 refine qj (tag:=tag) 2 hs fun Y tag1 I1 st1 r1=>?_
 refine ah8 (tag:=tag1) (r:=31) (h.step (st1 [])) (st1 []).sep hl fun A tag2 I2 st2 rd2=>?_
 refine vX rd2 (by decide) (st2 []).sep fun I3 st3 rd3=>?_
 rw[e1]at rd3⊢
 refine vX rd3 (by decide) st3.sep fun I4 st4 rd4=>?_
 rw[e2]at rd4⊢
 refine xh (tag:=tag2) 3 st4.sep rfl (by simp[qh,Sl.v]) fun X tag5 I5 st5 r5=>?_
 have y5:=(((r1.keep (st2 [])).keep st3 (by decide)).keep st4 (by decide)).keep (st5 [])
 refine vX (rd4.keep (st5 [])) (by decide) (st5 []).sep fun I6 st6 rd6=>?_
 rw[e3]at rd6⊢
 have r6:=r5.keep st6 (by decide)
 have y6:=y5.keep st6 (by decide)
 have s6:StepS (CG q) ro tag I tag5 I6:=((st1 []).s (by simp)).trans (((st2 []).s (by simp)).trans ((st3.s (by simp)).trans ((st4.s (by simp)).trans (((st5 []).s (by simp)).trans (st6.s (by simp))))))
 have wide:∀ {R:List Nat} {ta tb:Nat->Nat} {a c:AH},qe R ro ta a tb c->(∀x∈R,x%64∈CG q)->StepS (CG q) ro ta a tb c:=fun k h=>k.s h
 have last:∀ (rs ds ns es:Sl) tag7 I7,StepS (CG q) ro tag I tag7 I7->Row tag7 I7 2 30 ⟨some ⟨Y,0,none⟩,12,12⟩ [vI 0,vI 0,Sl.v ⟨none,0,0⟩,vI 0,Sl.v ⟨none,0,0⟩,vI 0,vI 0,vI 0,vI 0,Sl.v ⟨none,0,0⟩,Sl.v ⟨none,0,0⟩,vI 0]->
   Row tag7 I7 3 30 ⟨some ⟨X,0,none⟩,12,12⟩ [vI A1.1,vI A2.1,Sl.v rs,vI ((A5.1:Int) - 1),Sl.v ds,vI A7.1,vI A8.1,vI A9.1,vI B0.1,Sl.v ns,Sl.v es,vI 0]->qq tag7 I7 q 128 2 rs (A4.1.map uj)->Row tag7 I7 6 5 ds (A6.1.map vU)->Row tag7 I7 (q+1) 9 ns (B2.1.map Pa.vS)->qq tag7 I7 (q+2) 132 3 es (B4.1.map ahi)->
   jz tag7 I7 31 A B4.2->jX B ro Y X (some ⟨A,0,none⟩) (A3.1:Nat) (B1.1:Nat) (B3.1:Nat) Q I7:=fun rs ds ns es tag7 I7 s7 y7 x7 o1 o2 o3 o4 rd7=>by
  unfold jX
  refine vX rd7 (by decide) s7.sep fun I8 st8 rd8=>?_
  rw[f5]at rd8⊢
  have s8:=s7.trans (st8.s (C:=CG q) (by simp))
  refine(x7.keep st8 (by decide)).stAt [.int .i64 (B5.1:Nat)] 11 st8.sep (by simp) (by simp[qh]) fun I9 st9 x9=>?_
  have s9:=s8.trans (st9.s (C:=CG q) (by simp))
  have x9:Row tag7 I9 3 30 ⟨some ⟨X,0,none⟩,12,12⟩ [vI A1.1,vI A2.1,Sl.v rs,vI ((A5.1:Int) - 1),Sl.v ds,vI A7.1,vI A8.1,vI A9.1,vI B0.1,Sl.v ns,Sl.v es,vI B5.1]:=x9
  have rd9:=rd8.keep st9 (by decide) (by decide)
  have y9:=(y7.keep st8 (by decide)).keep st9 (by decide)
  have k9:StepS [3,31] ro tag7 I7 tag7 I9:=(st8.s (by simp)).trans (st9.s (by simp))
  have hat:aiF tag7 I9 q rs ds ns es (ve b).x:=by
   rw[hR]
   exact⟨qq.keepS o1 k9 (by rw[q0];simp;omega),o2.keepS k9,o3.keepS k9 (by rw[q1];simp;omega),qq.keepS o4 k9 (by rw[q2];simp;omega)⟩
  refine anJ rd9 st9.sep ?_
  have fin:∀ (c:Bool),(((c=true\/16<A3.1)\/4096<B1.1)\/32<B3.1↔((ve b).r.err≠0\/0<(ve b).r.rest.length\/16<(ve b).nr\/4096<(ve b).nn\/32<(ve b).ne))->xu B ro Y X (A3.1:Nat) (B1.1:Nat) (B3.1:Nat) Q c I9:=fun c hc=>by
   unfold xu
   by_cases k:(ve b).r.err≠0\/0<(ve b).r.rest.length\/16<(ve b).nr\/4096<(ve b).nn\/32<(ve b).ne
   .have k':=hc.2 k
    rw[if_pos (by
     rcases k' with((k' | k') | k') | k'
     .exact .inl (.inl (.inl k'))
     .exact .inl (.inl (.inr (by omega)))
     .exact .inl (.inr (by omega))
     .exact .inr (by omega))]
    refine y9.stAll s9.sep rfl (by simp[qh,Sl.v]) fun Ia sta ra=>?_
    exact⟨_,_,_,_,_,_,_,_,_,_,_,_,Row.cellsAt ra sta.sep,hno (by unfold aff;rw[if_pos k]) tag7 Ia (s9.trans (sta.s (by simp)))⟩
   .have k':¬ (((c=true\/16<A3.1)\/4096<B1.1)\/32<B3.1):=fun h=>k (hc.1 h)
    rw[if_neg (by
     rintro(((h | h) | h) | h)
     .exact k' (.inl (.inl (.inl h)))
     .exact k' (.inl (.inl (.inr (by omega))))
     .exact k' (.inl (.inr (by omega)))
     .exact k' (.inr (by omega)))]
    refine⟨_,_,_,_,_,_,_,_,_,_,_,_,Row.cellsAt x9 s9.sep,?_⟩
    refine y9.stAll s9.sep rfl (by simp[qh,Sl.v]) fun Ia sta ra=>?_
    have ka:StepS [2] ro tag7 I9 tag7 Ia:=sta.s (by simp)
    have:=hyes (ve b).x (by unfold aff;rw[if_neg k]) rs ds ns es tag7 Ia (s9.trans (sta.s (by simp))) (hat.keepS ka (by rw[q0];simp;omega) (by rw[q1];simp;omega) (by rw[q2];simp;omega) (by decide))
    rw[hR]at this
    exact⟨_,_,_,_,_,_,_,_,_,_,_,_,Row.cellsAt ra sta.sep,this⟩
  have hr1:(ve b).r=B5.2:=by rw[hR]
  have hr2:(ve b).nr=A3.1:=by rw[hR]
  have hr3:(ve b).nn=B1.1:=by rw[hR]
  have hr4:(ve b).ne=B3.1:=by rw[hR]
  by_cases c:B5.2.err=0
  .rw[if_neg (by simpa using c)]
   refine anI rd9 st9.sep ?_
   refine fin _ ?_
   rw[hr1,hr2,hr3,hr4]
   simp only[decide_eq_true_eq,ne_eq,c,not_true_eq_false,false_or]
   constructor
   .rintro(((h | h) | h) | h)
    .exact .inl (by omega)
    .exact .inr (.inl h)
    .exact .inr (.inr (.inl h))
    .exact .inr (.inr (.inr h))
   .rintro(h | h | h | h)
    .exact .inl (.inl (.inl (by omega)))
    .exact .inl (.inl (.inr h))
    .exact .inl (.inr h)
    .exact .inr h
  .rw[if_pos c]
   refine fin true ?_
   rw[hr1]
   exact⟨fun _=> .inl c,fun _=> .inl (.inl (.inl rfl))⟩
 have evs:∀ k j (es:Sl) (l:List (Int×Int×Str)) (x:Rd) (rs ds ns:Sl) tag7 I7,j+k=min B3.1 32->l.length=j->(l++(aif k x).1,(aif k x).2)=B4->StepS (CG q) ro tag I tag7 I7->Row tag7 I7 2 30 ⟨some ⟨Y,0,none⟩,12,12⟩ [vI 0,vI 0,Sl.v ⟨none,0,0⟩,vI 0,Sl.v ⟨none,0,0⟩,vI 0,vI 0,vI 0,vI 0,Sl.v ⟨none,0,0⟩,Sl.v ⟨none,0,0⟩,vI 0]->
   Row tag7 I7 3 30 ⟨some ⟨X,0,none⟩,12,12⟩ [vI A1.1,vI A2.1,Sl.v rs,vI ((A5.1:Int) - 1),Sl.v ds,vI A7.1,vI A8.1,vI A9.1,vI B0.1,Sl.v ns,Sl.v es,vI 0]->qq tag7 I7 q 128 2 rs (A4.1.map uj)->Row tag7 I7 6 5 ds (A6.1.map vU)->Row tag7 I7 (q+1) 9 ns (B2.1.map Pa.vS)->qq tag7 I7 (q+2) 132 3 es (l.map ahi)->
   jz tag7 I7 31 A x->lfpD (jY B ro Y X (some ⟨A,0,none⟩) (A3.1:Nat) (B1.1:Nat) (B3.1:Nat) Q) (j:Int) I7:=by
  intro k
  induction k with
  | zero=>
   intro j es l x rs ds ns tag7 I7 hj hlj hg s7 y7 x7 o1 o2 o3 o4 rd7
   refine lfpD.intro ?_
   unfold jY
   have:=aiE (n:=B3.1) (m:=32)
   rw[if_neg (by rw[show((32:Nat):Int)=32 from rfl]at this;rw[this];omega)]
   have h1:l=B4.1:=by rw[<-hg];simp[aif]
   have h2:x=B4.2:=by rw[<-hg];simp[aif]
   rw[h1]at o4;rw[h2]at rd7
   exact last rs ds ns es tag7 I7 s7 y7 x7 o1 o2 o3 o4 rd7
  | succ k ih=>
   intro j es l x rs ds ns tag7 I7 hj hlj hg s7 y7 x7 o1 o2 o3 o4 rd7
   refine lfpD.intro ?_
   unfold jY
   have:=aiE (n:=B3.1) (m:=32)
   rw[if_pos (by rw[show((32:Nat):Int)=32 from rfl]at this;rw[this];omega)]
   have hs7:=s7.sep
   obtain⟨tX,hX⟩:=x7.tagOf
   refine ac1 X ?_
   refine⟨es,by have:=x7.lend hs7 (τ:=fun _=>none) (i:=10) rfl;rwa [Nat.mul_one]at this,?_⟩
   have rdL:=rd7.del (b:=X) (by rw[tX];decide) (by rw[tX];decide)
   refine vX rdL (by decide) hs7.lent fun I8 st8 rd8=>?_
   refine vX rd8 (by decide) st8.sep fun I9 st9 rd9=>?_
   refine afw rd9 (by decide) st9.sep fun tagA IA stA rdA=>?_
   refine qj (tag:=tagA) 0 stA.sep fun Z tagB IB stB rB=>?_
   intro hdis
   have kL:StepS [31] (join ro (SL.one I7 X)) tag7 (SL.del I7 X) tagB IB:=(st8.s (by simp)).trans ((st9.s (by simp)).trans ((stA.s (by simp)).trans ((stB []).s (by simp))))
   have kB:=StepS.back kL hs7 hdis hX
   have hsB:=kB.sep
   have xB:=x7.again (tag1:=tagB) hdis
   have rdB:=(rdA.keep (stB [])).back (r':=tag7 X) hdis hX
   have zB:=rB.back (r':=tag7 X) hdis hX
   have o4B:=qq.keepS o4 kB (by rw[q2];simp;omega)
   generalize hT:setTag tagB X (tag7 X)=tagC at*
   generalize hS:join (SL.one I7 X) IB=IC at*
   have ll:(l.map ahi).length=j:=by rw[List.length_map,hlj]
   refine uh (l2:=[ahi ((((qR x).1:Nat):Int),(((qR (qR x).2).1:Nat):Int),(wo (qR (qR x).2).2).1)]) o4B hsB (Row.readW1 zB hsB rfl (by decide)) (t:=28) (by kernel_rfl) aoA rfl (by simp[ahi,qh]) (by rw[ll];simp;omega) (by decide) fun es' tagD ID stD rD=>?_
   have stD:=stD [q+2] (.inr (by simp))
   refine⟨es',rfl,?_⟩
   have kD:StepS [q+2] ro tagC IC tagD ID:=stD.s (by simp[q2])
   refine(xB.keep stD (by simp;omega)).stAt [Sl.v es'] 10 stD.sep (by simp) (by simp[qh,Sl.v]) fun IE stE xE=>?_
   have kE:StepS [3] ro tagD ID tagD IE:=stE.s (by simp)
   rw[Pa.inc j (by omega)]
   have k7E:StepS (CG q) ro tag7 I7 tagD IE:=(kB.mono (by simp)).trans ((kD.mono (by simp)).trans (kE.mono (by simp)))
   refine ih (j+1) es' (l++[((((qR x).1:Nat):Int),(((qR (qR x).2).1:Nat):Int),(wo (qR (qR x).2).2).1)]) (wo (qR (qR x).2).2).2 rs ds ns tagD IE (by omega) (by simp[hlj]) ?_ (s7.trans k7E) ?_ xE ?_ ?_ ?_ ?_ ?_
   .rw[<-hg,List.append_assoc];try rfl
   .exact((y7.keepS kB).keepS kD (by simp;omega)).keepS kE
   .exact qq.keepS (qq.keepS (qq.keepS o1 kB (by rw[q0];simp;omega)) kD (by rw[q0];simp)) kE (by rw[q0];simp;omega)
   .exact((o2.keepS kB).keepS kD (by simp;omega)).keepS kE
   .exact((o3.keepS kB (by rw[q1];simp;omega)).keepS kD (by rw[q1];simp)).keepS kE (by rw[q1];simp;omega)
   .rw[List.map_append]
    exact qq.keepS rD kE (by rw[q2];simp;omega)
   .exact(rdB.keep stD (by simp;omega) (by simp;omega)).keep stE (by decide) (by decide)
 have names:∀ k j (ns:Sl) (l:List Str) (x:Rd) (rs ds:Sl) tag7 I7,j+k=min B1.1 4096->l.length=j->(l++(ad8 k x).1,(ad8 k x).2)=B2->StepS (CG q) ro tag I tag7 I7->Row tag7 I7 2 30 ⟨some ⟨Y,0,none⟩,12,12⟩ [vI 0,vI 0,Sl.v ⟨none,0,0⟩,vI 0,Sl.v ⟨none,0,0⟩,vI 0,vI 0,vI 0,vI 0,Sl.v ⟨none,0,0⟩,Sl.v ⟨none,0,0⟩,vI 0]->
   Row tag7 I7 3 30 ⟨some ⟨X,0,none⟩,12,12⟩ [vI A1.1,vI A2.1,Sl.v rs,vI ((A5.1:Int) - 1),Sl.v ds,vI A7.1,vI A8.1,vI A9.1,vI B0.1,Sl.v ns,Sl.v ⟨none,0,0⟩,vI 0]->qq tag7 I7 q 128 2 rs (A4.1.map uj)->Row tag7 I7 6 5 ds (A6.1.map vU)->Row tag7 I7 (q+1) 9 ns (l.map Pa.vS)->
   jz tag7 I7 31 A x->lfpD (jZ B ro Y X (some ⟨A,0,none⟩) (A3.1:Nat) (B1.1:Nat) Q) (j:Int) I7:=by
  intro k
  induction k with
  | zero=>
   intro j ns l x rs ds tag7 I7 hj hlj hg s7 y7 x7 o1 o2 o3 rd7
   refine lfpD.intro ?_
   unfold jZ
   have:=aiE (n:=B1.1) (m:=4096)
   rw[if_neg (by rw[show((4096:Nat):Int)=4096 from rfl]at this;rw[this];omega)]
   have h1:l=B2.1:=by rw[<-hg];simp[ad8]
   have h2:x=B2.2:=by rw[<-hg];simp[ad8]
   rw[h1]at o3;rw[h2]at rd7
   unfold pX
   refine vX rd7 (by decide) s7.sep fun I8 st8 rd8=>?_
   rw[f3]at rd8⊢
   have k8:StepS [31] ro tag7 I7 tag7 I8:=st8.s (by simp)
   exact evs _ 0 ⟨none,0,0⟩ [] B3.2 rs ds ns tag7 I8 (Nat.zero_add _) rfl (by rw[f4];try rfl) (s7.trans (k8.mono (by simp))) (y7.keepS k8) (x7.keepS k8) (qq.keepS o1 k8 (by rw[q0];simp;omega)) (o2.keepS k8) (o3.keepS k8 (by rw[q1];simp;omega)) (qq.nil _ _ _) rd8
  | succ k ih=>
   intro j ns l x rs ds tag7 I7 hj hlj hg s7 y7 x7 o1 o2 o3 rd7
   refine lfpD.intro ?_
   unfold jZ
   have:=aiE (n:=B1.1) (m:=4096)
   rw[if_pos (by rw[show((4096:Nat):Int)=4096 from rfl]at this;rw[this];omega)]
   have hs7:=s7.sep
   obtain⟨tX,hX⟩:=x7.tagOf
   refine ac1 X ?_
   refine⟨ns,by have:=x7.lend hs7 (τ:=fun _=>none) (i:=9) rfl;rwa [Nat.mul_one]at this,?_⟩
   have rdL:=rd7.del (b:=X) (by rw[tX];decide) (by rw[tX];decide)
   refine afw rdL (by decide) hs7.lent fun tagA IA stA rdA=>?_
   refine qj (tag:=tagA) 0 stA.sep fun Z tagB IB stB rB=>?_
   intro hdis
   have kL:StepS [31] (join ro (SL.one I7 X)) tag7 (SL.del I7 X) tagB IB:=(stA.s (by simp)).trans ((stB []).s (by simp))
   have kB:=StepS.back kL hs7 hdis hX
   have hsB:=kB.sep
   have xB:=x7.again (tag1:=tagB) hdis
   have rdB:=(rdA.keep (stB [])).back (r':=tag7 X) hdis hX
   have zB:=rB.back (r':=tag7 X) hdis hX
   have o3B:=o3.keepS kB (by rw[q1];simp;omega)
   generalize hT:setTag tagB X (tag7 X)=tagC at*
   generalize hS:join (SL.one I7 X) IB=IC at*
   refine afH o3B hsB t25 ty9 rfl rfl (Row.cell1 zB hsB) rfl (by rw[List.length_map,hlj];omega) (by decide) fun ns' tagD ID stD rD=>?_
   refine⟨ns',rfl,?_⟩
   have kD:StepS [q+1] ro tagC IC tagD ID:=stD.s (by simp[q1])
   refine(xB.keep stD (by simp;omega)).stAt [Sl.v ns'] 9 stD.sep (by simp) (by simp[qh,Sl.v]) fun IE stE xE=>?_
   have kE:StepS [3] ro tagD ID tagD IE:=stE.s (by simp)
   rw[Pa.inc j (by omega)]
   have k7E:StepS (CG q) ro tag7 I7 tagD IE:=(kB.mono (by simp)).trans ((kD.mono (by simp)).trans (kE.mono (by simp)))
   refine ih (j+1) ns' (l++[(wo x).1]) (wo x).2 rs ds tagD IE (by omega) (by simp[hlj]) ?_ (s7.trans k7E) ?_ xE ?_ ?_ ?_ ?_
   .rw[<-hg,List.append_assoc];try rfl
   .exact((y7.keepS kB).keepS kD (by simp;omega)).keepS kE
   .exact qq.keepS (qq.keepS (qq.keepS o1 kB (by rw[q0];simp;omega)) kD (by rw[q0];simp)) kE (by rw[q0];simp;omega)
   .exact((o2.keepS kB).keepS kD (by simp;omega)).keepS kE
   .rw[List.map_append]
    exact rD.keepS kE (by rw[q1];simp;omega)
   .exact(rdB.keep stD (by simp;omega) (by simp;omega)).keep stE (by decide) (by decide)
 have mid:∀ (rs:Sl) tag7 I7,StepS (CG q) ro tag I tag7 I7->Row tag7 I7 2 30 ⟨some ⟨Y,0,none⟩,12,12⟩ [vI 0,vI 0,Sl.v ⟨none,0,0⟩,vI 0,Sl.v ⟨none,0,0⟩,vI 0,vI 0,vI 0,vI 0,Sl.v ⟨none,0,0⟩,Sl.v ⟨none,0,0⟩,vI 0]->
   Row tag7 I7 3 30 ⟨some ⟨X,0,none⟩,12,12⟩ [vI A1.1,vI A2.1,Sl.v rs,vI 0,Sl.v ⟨none,0,0⟩,vI 0,vI 0,vI 0,vI 0,Sl.v ⟨none,0,0⟩,Sl.v ⟨none,0,0⟩,vI 0]->qq tag7 I7 q 128 2 rs (A4.1.map uj)->jz tag7 I7 31 A A4.2->yr B ro Y X (some ⟨A,0,none⟩) (A3.1:Nat) Q I7:=fun rs tag7 I7 s7 y7 x7 o1 rd7=>by
  unfold yr
  refine vX rd7 (by decide) s7.sep fun I8 st8 rd8=>?_
  rw[e5]at rd8⊢
  rw[show i64.wrap ((A5.1:Nat) - 1:Int)=(A5.1:Int) - 1 from SL.wb (by omega) (by omega)]
  refine(x7.keep st8 (by decide)).stAt [.int .i64 ((A5.1:Int) - 1)] 3 st8.sep (by simp) (by simp[qh]) fun I9 st9 x9=>?_
  refine ah9 (rd8.keep st9 (by decide) (by decide)) (by decide) st9.sep fun ds tagA IA stA oA rdA=>?_
  rw[e6]at oA rdA
  refine(x9.keep stA (by decide)).stAt [Sl.v ds] 4 stA.sep (by simp) (by simp[qh,Sl.v]) fun IB stB xB=>?_
  refine vX (rdA.keep stB (by decide) (by decide)) (by decide) stB.sep fun IC stC rdC=>?_
  rw[e7]at rdC⊢
  refine vX rdC (by decide) stC.sep fun ID stD rdD=>?_
  rw[e8]at rdD⊢
  refine vX rdD (by decide) stD.sep fun IE stE rdE=>?_
  rw[e9]at rdE⊢
  refine vX rdE (by decide) stE.sep fun IF stF rdF=>?_
  rw[f0]at rdF⊢
  refine((((xB.keep stC (by decide)).keep stD (by decide)).keep stE (by decide)).keep stF (by decide)).stAt [.int .i64 (A7.1:Nat),.int .i64 (A8.1:Nat),.int .i64 (A9.1:Nat),.int .i64 (B0.1:Nat)] 5 stF.sep (by simp) (by simp[qh]) fun IG stG xG=>?_
  refine vX (rdF.keep stG (by decide) (by decide)) (by decide) stG.sep fun IH stH rdH=>?_
  rw[f1]at rdH⊢
  have k8:StepS [3,31] ro tag7 I7 tag7 I9:=(st8.s (by simp)).trans (st9.s (by simp))
  have kH:StepS [3,31] ro tagA IA tagA IH:=(stB.s (by simp)).trans ((stC.s (by simp)).trans ((stD.s (by simp)).trans ((stE.s (by simp)).trans ((stF.s (by simp)).trans ((stG.s (by simp)).trans (stH.s (by simp)))))))
  have k7:StepS [3,31] ro tag7 I7 tagA IH:=k8.trans ((stA.s (by simp)).trans kH)
  exact names _ 0 ⟨none,0,0⟩ [] B1.2 rs ds tagA IH (Nat.zero_add _) rfl (by rw[f2];try rfl) (s7.trans (k7.mono (by simp))) (y7.keepS k7) (xG.keep stH (by decide)) (qq.keepS o1 k7 (by rw[q0];simp;omega)) (oA.keepS kH) (Row.nil _ _) rdH
 suffices∀k j (rs:Sl) (l:List (Str×Int)) (x:Rd) tag7 I7,j+k=min A3.1 16->l.length=j->(l++(aie k x).1,(aie k x).2)=A4->StepS (CG q) ro tag I tag7 I7->Row tag7 I7 2 30 ⟨some ⟨Y,0,none⟩,12,12⟩ [vI 0,vI 0,Sl.v ⟨none,0,0⟩,vI 0,Sl.v ⟨none,0,0⟩,vI 0,vI 0,vI 0,vI 0,Sl.v ⟨none,0,0⟩,Sl.v ⟨none,0,0⟩,vI 0]->
   Row tag7 I7 3 30 ⟨some ⟨X,0,none⟩,12,12⟩ [vI A1.1,vI A2.1,Sl.v rs,vI 0,Sl.v ⟨none,0,0⟩,vI 0,vI 0,vI 0,vI 0,Sl.v ⟨none,0,0⟩,Sl.v ⟨none,0,0⟩,vI 0]->qq tag7 I7 q 128 2 rs (l.map uj)->jz tag7 I7 31 A x->lfpD (ya B ro Y X (some ⟨A,0,none⟩) (A3.1:Nat) Q) (j:Int) I7 from
  this _ 0 ⟨none,0,0⟩ [] A3.2 tag5 I6 (Nat.zero_add _) rfl (by rw[e4];try rfl) s6 y6 r6 (qq.nil _ _ _) rd6
 intro k
 induction k with
 | zero=>
  intro j rs l x tag7 I7 hj hlj hg s7 y7 x7 o1 rd7
  refine lfpD.intro ?_
  unfold ya
  have:=aiE (n:=A3.1) (m:=16)
  rw[if_neg (by rw[show((16:Nat):Int)=16 from rfl]at this;rw[this];omega)]
  have h1:l=A4.1:=by rw[<-hg];simp[aie]
  have h2:x=A4.2:=by rw[<-hg];simp[aie]
  rw[h1]at o1;rw[h2]at rd7
  exact mid rs tag7 I7 s7 y7 x7 o1 rd7
 | succ k ih=>
  intro j rs l x tag7 I7 hj hlj hg s7 y7 x7 o1 rd7
  refine lfpD.intro ?_
  unfold ya
  have:=aiE (n:=A3.1) (m:=16)
  rw[if_pos (by rw[show((16:Nat):Int)=16 from rfl]at this;rw[this];omega)]
  have hs7:=s7.sep
  obtain⟨tX,hX⟩:=x7.tagOf
  refine ac1 X ?_
  refine⟨rs,by have:=x7.lend hs7 (τ:=fun _=>none) (i:=2) rfl;rwa [Nat.mul_one]at this,?_⟩
  have rdL:=rd7.del (b:=X) (by rw[tX];decide) (by rw[tX];decide)
  refine afw rdL (by decide) hs7.lent fun tagA IA stA rdA=>?_
  refine vX rdA (by decide) stA.sep fun I9 st9 rd9=>?_
  refine qj (tag:=tagA) 0 st9.sep fun Z tagB IB stB rB=>?_
  intro hdis
  have kL:StepS [31] (join ro (SL.one I7 X)) tag7 (SL.del I7 X) tagB IB:=(stA.s (by simp)).trans ((st9.s (by simp)).trans ((stB []).s (by simp)))
  have kB:=StepS.back kL hs7 hdis hX
  have hsB:=kB.sep
  have xB:=x7.again (tag1:=tagB) hdis
  have rdB:=(rd9.keep (stB [])).back (r':=tag7 X) hdis hX
  have zB:=rB.back (r':=tag7 X) hdis hX
  have o1B:=qq.keepS o1 kB (by rw[q0];simp;omega)
  generalize hT:setTag tagB X (tag7 X)=tagC at*
  generalize hS:join (SL.one I7 X) IB=IC at*
  have ll:(l.map uj).length=j:=by rw[List.length_map,hlj]
  refine uh (l2:=[uj ((wo x).1,(((qR (wo x).2).1:Nat):Int))]) o1B hsB (Row.readW1 zB hsB rfl (by decide)) (t:=23) (by kernel_rfl) atW rfl (by simp[uj,qh]) (by rw[ll];simp;omega) (by decide) fun rs' tagD ID stD rD=>?_
  have stD:=stD [q] (.inr (by simp))
  refine⟨rs',rfl,?_⟩
  have kD:StepS [q] ro tagC IC tagD ID:=stD.s (by simp[q0])
  refine(xB.keep stD (by simp;omega)).stAt [Sl.v rs'] 2 stD.sep (by simp) (by simp[qh,Sl.v]) fun IE stE xE=>?_
  have kE:StepS [3] ro tagD ID tagD IE:=stE.s (by simp)
  rw[Pa.inc j (by omega)]
  have k7E:StepS (CG q) ro tag7 I7 tagD IE:=(kB.mono (by simp)).trans ((kD.mono (by simp)).trans (kE.mono (by simp)))
  refine ih (j+1) rs' (l++[((wo x).1,(((qR (wo x).2).1:Nat):Int))]) (qR (wo x).2).2 tagD IE (by omega) (by simp[hlj]) ?_ (s7.trans k7E) ?_ xE ?_ ?_
  .rw[<-hg,List.append_assoc];try rfl
  .exact((y7.keepS kB).keepS kD (by simp;omega)).keepS kE
  .rw[List.map_append]
   exact qq.keepS rD kE (by rw[q0];simp;omega)
  .exact(rdB.keep stD (by simp;omega) (by simp;omega)).keep stE (by decide) (by decide)