import Derived.Test.YtomdigihapdhnaaGreatDoorXE
set_option linter.all false
set_option maxRecDepth 99999
set_option maxHeartbeats 0
open Go.IntKind(i64)
open Go.Proofs.Tryz
namespace Go.Proofs.YtomdigihapdhnaaGreatDoor
namespace Pa
open Go SL G Go.RowKit
variable{B:World}{ro I I':AH}{tag tag':Nat->Nat}
variable{p s:ByteArray}{Q:ByteArray->AH->Prop}{ps:List Str}{k n:Nat}
theorem apX(s:ByteArray)(i:Nat)(h:i<s.size):s[i]?=some ((L s)[i]'(by rw[zd];exact h)):=by
 conv=>lhs;rw[<-S_L s]
 rw[atO,md]
theorem apc(c:UInt8):okc c=true↔(((97<=(c.toNat:Int)/\(c.toNat:Int)<=122)\/(48<=(c.toNat:Int)/\(c.toNat:Int)<=57))\/(c.toNat:Int)=46)\/(c.toNat:Int)=95\/(c.toNat:Int)=45:=by
 simp[okc];omega
theorem asq{Q:Bool->AH->Prop}(hQ:Q (qP (L s)) I):afY B ro s I Q:=by
 refine am7 fun hs=>?_
 unfold af9
 by_cases g:((((s.size:Int)<1)\/(32<(s.size:Int)))\/s=⟨#[46]⟩)\/s=⟨#[46,46]⟩
 .rw[mc g]
  have:qP (L s)=false:=by
   rw[Bool.eq_false_iff]
   intro h
   unfold qP at h
   simp only[mw,mP,bne_iff_ne]at h
   obtain⟨⟨⟨⟨h1,h2⟩,h3⟩,h4⟩,_⟩:=h
   rw[zd]at h1 h2
   rcases g with((g | g) | g) | g
   .omega
   .omega
   .rw[g]at h3;exact h3 rfl
   .rw[g]at h4;exact h4 rfl
  rw[this]at hQ;exact hQ
 .rw[ma g]
  have hall:qP (L s)=(L s).all okc:=by
   unfold qP
   have e1:1<=(L s).length:=by rw[zd];omega
   have e2:(L s).length<=32:=by rw[zd];omega
   have e3:L s≠[46]:=fun h=>g (.inl (.inr (yI h)))
   have e4:L s≠[46,46]:=fun h=>g (.inr (yI h))
   simp[e1,e2,e3,e4]
  rw[hall]at hQ
  have h32:s.size<=32:=by omega
  suffices∀m j,j+m=s.size->(∀i,i<j->∀ c,(L s)[i]?=some c->okc c=true)->lfpD (ut B ro s Q) (j:Int) I from
   this s.size 0 (ml _) (fun i h=>mu h (Nat.not_lt_zero _))
  intro m
  induction m with
  | zero=>
   intro j hj hk
   refine lfpD.intro ?_
   unfold ut
   rw[ma z7]
   have:(L s).all okc=true:=by
    rw[mD]
    intro c hc
    obtain⟨i,hi,e⟩:=mZ hc
    exact hk i (by rw[zd]at hi;omega) c (by rw[md hi,e])
   rw[this]at hQ;exact hQ
  | succ m ih=>
   intro j hj hk
   have hjl:j<(L s).length:=by rw[zd];omega
   refine lfpD.intro ?_
   unfold ut
   rw[mc z7]
   refine⟨(L s)[j],z7,by rw[mr];exact apX s j z7,?_⟩
   have key:∀ x:Bool,(((x=true\/((L s)[j].toNat:Int)=46)\/((L s)[j].toNat:Int)=95)\/((L s)[j].toNat:Int)=45↔okc (L s)[j]=true)->us B ro s j (L s)[j] Q (lfpD (ut B ro s Q)) x I:=by
    intro x hx
    unfold us
    by_cases c:okc (L s)[j]=true
    .rw[ma (fun h=>h (hx.2 c)),inc j z7]
     refine ih (j+1) z7 fun i hi c' hc'=>?_
     rcases mL i j with h | h
     .exact hk i h c' hc'
     .have:i=j:=by omega
      subst this
      rw[md hjl]at hc'
      cases hc';exact c
    .rw[mc (fun h=>c (hx.1 h))]
     have:(L s).all okc=false:=by
      rw[Bool.eq_false_iff,ne_eq,mD]
      exact fun h=>c (h _ (mG hjl))
     rw[this]at hQ;exact hQ
   by_cases b1:(97:Int)<=((L s)[j].toNat:Int)/\((L s)[j].toNat:Int)<=122
   .rw[mc b1]
    exact key _ (by rw[apc];simp;omega)
   .rw[ma b1]
    exact key _ (by rw[apc];simp;omega)
theorem t25:prog.underlying 27=some (.slice 9):=y1
theorem aqY{Q:Sl->Bool->AH->Prop}(r:Nat)(hnone:parts (L s)=none->∀ sl I',Q sl false I')
  (hsome:∀ ps,parts (L s)=some ps->∀ sl tag' I',qd [r] ro tag I tag' I'->Row tag' I' r 9 sl (ps.map vS)->Q sl true I'):xx B ro s I Q:=by
 refine alS fun hs=>?_
 unfold afi
 by_cases h1:s=⟨#[47]⟩
 .rw[mc h1]
  refine hsome [] ?_ _ tag I (qd.refl hs) (Row.nil r 9)
  subst h1;rfl
 .have hne:L s≠[47]:=fun h=>h1 (yI h)
  rw[ma h1]
  by_cases h2:((s.size:Int)<1)\/128<(s.size:Int)
  .rw[mc h2]
   unfold pC
   rw[mc rfl]
   refine hnone ?_ _ _
   unfold parts;rw[ma hne,ma]
   rintro⟨a,b,_⟩
   rw[zd]at a
   have:(L s).length=0:=by rw[zd];omega
   rw[mO this]at b
   cases b
  .rw[ma h2]
   have h128:s.size<=128:=by omega
   have hpos:0<(L s).length:=by rw[zd];omega
   refine⟨(L s)[0],z7,apX s 0 z7,?_⟩
   unfold pC
   by_cases h3:(L s)[0]=47
   .rw[ma (by rw[h3];decide)]
    obtain⟨t,ht⟩:∃ t,L s=47::t:=by
     cases h:L s with
     | nil=>rw[h]at hpos;cases hpos
     | cons c t=>simp only[h,List.getElem_cons_zero]at h3;rw[h3];exact⟨t,rfl⟩
    have hsz:s.size=t.length+1:=by rw[<-zd,ht];try rfl
    have hdrop:(L s).drop 1=t:=by rw[ht];try rfl
    have hno:∀ x∈cut t,¬qP x=true->parts (L s)=none:=fun x hx hx'=>by
     unfold parts
     rw[ma hne,hdrop,ma]
     intro h;exact hx' (mD.1 h.2.2.2 x hx)
    have step:∀ (i fr:Nat) (done:List Str) sl tag' I' Y,i<=s.size->fr<=i->done.length<=i->((L s).take i).drop fr∈cut t->Row tag' I' r 9 sl (done.map vS)->qd [r] ro tag I tag' I'->
      (qP (((L s).take i).drop fr)=true->∀ s2 tag2 I2,Row tag2 I2 r 9 s2 ((done++[((L s).take i).drop fr]).map vS)->qd [r] ro tag I tag2 I2->Y (s2,((i+1:Nat):Int),((i+1:Nat):Int)) I2)->
      je B ro s sl (fr:Int) (i:Int) Q Y true I':=by
     intro i fr done sl tag' I' Y hi hf hdl hmem hr st hY
     unfold je
     rw[mc rfl]
     have hcut:cutOk (some (fr:Int)) (some (i:Int)) s.size s.size:=⟨⟨z7,z7⟩,⟨z7,by simp[cutHi];omega⟩⟩
     refine⟨hcut,?_⟩
     rw[mr,mr,atN]
     refine asq ?_
     rw[L_S]
     by_cases hn:qP (((L s).take i).drop fr)=true
     .rw[ma (j2 hn)]
      refine⟨hcut,?_⟩
      refine qh (tag:=tag') (r+1) st.sep fun u tag2 I2 st2 r2=>?_
      have hr2:=hr.keep (st2 [])
      refine aeE hr2 (st2 []).sep t25 ty9 rfl rfl (Row.cell1 r2 (st2 []).sep) rfl (by rw[mi];omega) y0 fun s' tag3 I3 st3 r3=>?_
      refine⟨s',rfl,?_⟩
      unfold pB
      rw[inc i z7]
      exact hY hn s' tag3 I3 (by rw[mB];exact r3) (st.trans ((st2 _).trans st3))
     .rw[mc (j2 hn)]
      exact hnone (hno _ hmem hn) _ _
    suffices∀m i fr done sl tag' I',i+m=s.size->fr<=i->47∉((L s).take i).drop fr->cut t=done++cut ((L s).drop fr)->(∀x∈done,qP x=true)->done.length<=i->Row tag' I' r 9 sl (done.map vS)->qd [r] ro tag I tag' I'->lfpD (xH B ro s Q) (sl,(fr:Int),(i:Int)) I' from
     this t.length 1 1 [] ⟨none,0,0⟩ tag I z7 (mK _) (by rw[List.drop_eq_nil_of_le j0];simp) (by rw[ht];try rfl) z8 z8 (Row.nil r 9) (qd.refl hs)
    intro m
    induction m with
    | zero=>
     intro i fr done sl tag' I' hi hf2 hw hc hd hdl hr st
     refine lfpD.intro ?_
     unfold xH
     simp only
     rw[mc z7,mc z7]
     have hti:(L s).take i=L s:=mH (by rw[zd];omega)
     rw[hti]at hw
     rw[aky _ hw]at hc
     refine step i fr done sl tag' I' (lfpD (xH B ro s Q)) z7 hf2 hdl (by rw[hti,hc];simp) hr st fun hn s2 tag2 I2 r2 st2=>?_
     rw[hti]at hn r2
     refine lfpD.intro ?_
     unfold xH
     simp only
     rw[ma z7]
     unfold acb
     rw[<-hc]at r2
     have hln:s2.len=(cut t).length:=by rw[r2.len,mi]
     by_cases h8:8<(s2.len:Int)
     .rw[mc h8]
      refine hnone ?_ _ _
      unfold parts
      rw[ma hne,hdrop,ma]
      intro h;have:=h.2.2.1;omega
     .rw[ma h8]
      refine hsome (cut t) ?_ s2 tag2 I2 st2 r2
      unfold parts
      rw[ma hne,hdrop,mc]
      refine⟨by rw[zd];omega,by rw[ht];try rfl,z7,?_⟩
      rw[mD,hc]
      intro x hx
      rcases mt.1 hx with h | h
      .exact hd x h
      .rw[mo]at h;rw[h];exact hn
    | succ m ih=>
     intro i fr done sl tag' I' hi hf2 hw hc hd hdl hr st
     have hil:i<(L s).length:=by rw[zd];omega
     refine lfpD.intro ?_
     unfold xH
     simp only
     rw[mc z7,ma z7]
     refine⟨(L s)[i],z7,by rw[mr];exact apX s i z7,?_⟩
     have hsplit:(L s).drop fr=((L s).take i).drop fr++(L s)[i]::(L s).drop (i+1):=by
      rw[<-List.drop_eq_getElem_cons hil]
      conv=>lhs;rw[<-List.take_append_drop i (L s)]
      rw[List.drop_append_of_le_length j0]
     by_cases h47:(L s)[i]=47
     .rw[h47]at hsplit⊢
      rw[hsplit,alT _ _ hw]at hc
      rw[show(decide (((47:UInt8).toNat:Int)=47))=true from by decide]
      refine step i fr done sl tag' I' (lfpD (xH B ro s Q)) z7 hf2 hdl (by rw[hc];simp) hr st fun hn s2 tag2 I2 r2 st2=>?_
      refine ih (i+1) (i+1) _ s2 tag2 I2 z7 (mK _) (by rw[List.drop_eq_nil_of_le j0];simp) (by rw[hc];simp) (fun x hx=>?_) j0 r2 st2
      rcases mt.1 hx with h | h
      .exact hd x h
      .rw[mo]at h;rw[h];exact hn
     .rw[show(decide ((((L s)[i]).toNat:Int)=47))=false from by
       simp;intro h;exact h47 (UInt8.toNat_inj.1 (by show(L s)[i].toNat=47;omega))]
      unfold je
      rw[ma y0]
      unfold pB
      rw[inc i z7]
      refine ih (i+1) fr done sl tag' I' z7 z7 ?_ hc hd z7 hr st
      rw[List.take_succ_eq_append_getElem hil,List.drop_append_of_le_length j0]
      intro h
      rcases mt.1 h with h | h
      .exact hw h
      .rw[mo]at h;exact h47 h.symm
   .rw[mc (by simp;intro h;exact h3 (UInt8.toNat_inj.1 (by show(L s)[0].toNat=47;omega)))]
    refine hnone ?_ _ _
    unfold parts
    rw[ma hne,ma]
    intro h
    apply h3
    have:=h.2.1
    rw[List.head?_eq_getElem?,md hpos]at this
    exact mA this
theorem apY(h:ag0 ps):ps.length<4611686018427387904/\(mk ps).length<4611686018427387904:=by
 have:=h.n;have:=h.len;omega
theorem asr(a r:Str):cut (a++47::r)=cut a++cut r:=by
 induction a with
 | nil=>rw[nx];conv=>lhs;unfold cut
        rw[mc rfl];try rfl
 | cons c a ih=>
  rw[nb]
  conv=>lhs;unfold cut
  conv=>rhs;arg 1;unfold cut
  by_cases h:c=47
  .rw[mc h,mc h,ih];try rfl
  .rw[ma h,ma h,ih]
   cases hc:cut a with
   | nil=>exact mu hc (anJ a)
   | cons x xs=>rfl
theorem aqZ{qs:List Str}(hp:ag0 ps)(hq:ag0 qs)(hn:ps≠[]):(mk qs=mk ps\/(mk ps++[47]) <+: mk qs)↔ps <+: qs:=by
 have hcp:cut ((mk ps).drop 1)=ps:=by unfold mk;rw[ma hn];exact ai5 ps hn fun x hx=>adB (hp.ok x hx)
 constructor
 .rintro(h | ⟨r,h⟩)
  .rw[aqW hq hp h];exact List.prefix_refl _
  .have hqn:qs≠[]:=by
    intro e
    subst e
    have h1:=mh List.length h
    have h2:=ala ps
    simp[mk]at h1
    simp only[mk]at h2
    omega
   have hcq:cut ((mk qs).drop 1)=qs:=by unfold mk;rw[ma hqn];exact ai5 qs hqn fun x hx=>adB (hq.ok x hx)
   have e:(mk qs).drop 1=(mk ps).drop 1++47::r:=by
    rw[<-h,nk,List.drop_append_of_le_length (ala ps)];try rfl
   rw[e,asr,hcp]at hcq
   exact⟨_,hcq⟩
 .rintro⟨t,rfl⟩
  cases t with
  | nil=>left;rw[ny]
  | cons x t=>
   right
   have e:mk (ps++x::t)=mk ps++[47]++(x++t.flatMap (fun x=>47::x)):=by
    unfold mk
    rw[ma z8,ma hn,List.flatMap_append,nI];simp
   exact⟨_,e.symm⟩
def ace(p q:Str):Option Bool:=match parts p,parts q with | some ps,some qs=>some (ps.isPrefixOf qs) | _,_=>none
theorem anK{q:ByteArray}{Q:Bool->Int->AH->Prop}(g:wW ro)(hnone:ace (L p) (L q)=none->Q false 20 I)(hsome:∀ b,ace (L p) (L q)=some b->Q b 0 I):afZ B ro p q I Q:=by
 refine am4 fun hs=>?_
 unfold af5
 refine pN g ?_
 by_cases h1:chk (L p)=0
 .rw[ma (j2 h1)]
  obtain⟨ps,hps⟩:=vB.1 h1
  refine pN g ?_
  unfold uq
  by_cases h2:chk (L q)=0
  .rw[ma (j2 h2)]
   obtain⟨qs,hqs⟩:=vB.1 h2
   obtain⟨hpl,hpg⟩:=qW.1 hps
   obtain⟨hql,hqg⟩:=qW.1 hqs
   have hu:ace (L p) (L q)=some (ps.isPrefixOf qs):=by unfold ace;rw[hps,hqs]
   have hres:=hsome _ hu
   unfold aba
   by_cases h3:p=⟨#[47]⟩\/q=p
   .rw[mc h3]
    have:ps.isPrefixOf qs=true:=by
     rw[List.isPrefixOf_iff_prefix]
     rcases h3 with h | h
     .have:ps=[]:=(amz hpg).1 (by rw[<-hpl,h];try rfl)
      rw[this];exact List.nil_prefix
     .have:ps=qs:=by rw[h,hps]at hqs;exact mA hqs
      rw[this];exact List.prefix_refl _
    rw[this]at hres;exact hres
   .rw[ma h3]
    have hn:ps≠[]:=fun e=>h3 (.inl (yI (by rw[hpl,e];try rfl)))
    have h128:=hpg.len
    have hsz:p.size=(mk ps).length:=by rw[<-zd,hpl]
    refine⟨by show p.size+1<=_;omega,?_⟩
    refine ai6 ?_
    have e:(L (p++(⟨#[47]⟩:ByteArray))).isPrefixOf (L q)=ps.isPrefixOf qs:=by
     rw[anF,hpl,hql,Bool.eq_iff_iff,List.isPrefixOf_iff_prefix,List.isPrefixOf_iff_prefix,<-aqZ hpg hqg hn]
     constructor
     .intro h;exact .inr h
     .rintro(h | h)
      .exact mu (.inr (yI (by rw[hpl,hql,h]))) h3
      .exact h
    rw[e];exact hres
  .rw[mc (j2 h2)]
   refine hnone ?_
   unfold ace
   cases h:parts (L q)with
   | none=>cases parts (L p)<;>rfl
   | some qs=>exact mu (vB.2 ⟨qs,h⟩) h2
 .rw[mc (j2 h1)]
  unfold uq
  rw[mc rfl]
  refine hnone ?_
  unfold ace
  cases h:parts (L p)with
  | none=>rfl
  | some qs=>exact mu (vB.2 ⟨qs,h⟩) h1
def aep:Nat->Nat->Str
 | 0,_=>[]
 | k+1,n=>aep k (n / 10)++[UInt8.ofNat (48+n%10)]
theorem aq0(k:Nat):aep k 0=List.replicate k 48:=by
 induction k with
 | zero=>rfl
 | succ k ih=>rw[aep,Nat.zero_div,ih,List.replicate_succ'];try rfl
theorem ass:∀ (k n:Nat),n<10 ^ (k+1)->(Lib.decDigits n).length<=k+1/\List.replicate (k+1 - (Lib.decDigits n).length) 48++Lib.decDigits n=aep (k+1) n:=by
 intro k
 induction k with
 | zero=>
  intro n h
  have h:n<10:=by simpa using h
  rw[Lib.decDigits,dif_pos h]
  refine⟨z8,?_⟩
  simp[aep,nG h]
 | succ k ih=>
  intro n h
  by_cases h10:n<10
  .rw[Lib.decDigits,dif_pos h10]
   refine⟨z8,?_⟩
   rw[aep,Nat.div_eq_of_lt h10,aq0,nG h10];simp
  .rw[Lib.decDigits,dif_neg h10]
   obtain⟨h1,h2⟩:=ih (n / 10) (by rw[Nat.div_lt_iff_lt_mul z7];rw[Nat.pow_succ]at h;exact h)
   refine⟨j0,?_⟩
   rw[aep,<-h2]
   simp only[mW,mx,nE,<-nk]
   rw[show k+1+1 - ((Lib.decDigits (n / 10)).length+(0+1))=k+1 - (Lib.decDigits (n / 10)).length by omega]
theorem anL(k n:Nat):(aep k n).length=k:=by
 induction k generalizing n with
 | zero=>rfl
 | succ k ih=>rw[aep,mW,ih];try rfl
theorem aov(c:UInt8)(k:Nat):Lib.repeatL [c] k=List.replicate k c:=by
 induction k with
 | zero=>rfl
 | succ k ih=>rw[Lib.repeatL,ih];try rfl
theorem aua(g:wW ro)(hn:n<9223372036854775808)(hQ:Q (S (Lib.decDigits n)) I):ahm B ro (n:Int) I Q:=by
 refine qc.of_calls fun w hw hsep=>?_
 refine(Tryz.strconv_Itoa (n:Int) z7 z7 w (g.tab w (apa hw))).mono ?_
 rintro e w' ⟨he,k,os,rfl⟩
 have hb:Below w.heap.size w (Go.Sort.grow (w.drewN k) os):=⟨rfl,rfl,rfl,by simp[Go.Sort.grow,World.drewN],fun b hb=>by
  simp only[Go.Sort.grow,World.drewN]
  rw[Array.getElem?_append_left hb]⟩
 refine⟨_,fun _=>none,he,hb,ahP.none _ _,S (Lib.decDigits n),?_,?_⟩
 .rw[Lib.itoa_nonneg];try rfl
 .rw[yG];exact hQ
theorem aq1(hk:k<=100)(hQ:Q (S (List.replicate k 48)) I):af0 B ro (⟨#[48]⟩:ByteArray) (k:Int) I Q:=by
 refine qc.of_calls fun w hw hsep=>?_
 refine(Tryz.strings_Repeat (⟨#[48]⟩:ByteArray) k w z7 (by show 1*k<=_;omega)).mono ?_
 rintro e w' ⟨he,hb⟩
 refine⟨_,fun _=>none,he,hb,ahP.none _ _,S (List.replicate k 48),?_,?_⟩
 .rw[show(⟨#[48]⟩:ByteArray).data.toList=[48]from rfl,aov];try rfl
 .rw[yG];exact hQ
def pO(n:Int):Str:=aep 10 n.toNat
def pP(l:Str)(n:Int):Option Str:=
 match parts l with
 | some ps=>if ps=[]\/n<0\/9999999999<n then none else if(parts (l++pO n)).isSome then some (l++pO n)else none
 | none=>none
theorem aq2{n:Int}{Q:ByteArray->Int->AH->Prop}(g:wW ro)(hnone:pP (L p) n=none->Q (⟨#[]⟩:ByteArray) 20 I)(hsome:∀ u,pP (L p) n=some u->Q (S u) 0 I):afa B ro p n I Q:=by
 refine alR fun hs=>?_
 unfold afg
 by_cases h1:(p=⟨#[47]⟩\/n<0)\/9999999999<n
 .rw[mc h1]
  unfold pA
  rw[mc rfl]
  refine hnone ?_
  unfold pP
  cases h:parts (L p)with
  | none=>rfl
  | some ps=>
   obtain⟨hl,hg⟩:=qW.1 h
   refine mc ?_
   rcases h1 with(h1 | h1) | h1
   .exact .inl ((amz hg).1 (by rw[<-hl,h1];try rfl))
   .exact .inr (.inl h1)
   .exact .inr (.inr h1)
 .rw[ma h1]
  have hp1:p≠⟨#[47]⟩:=fun h=>h1 (.inl (.inl h))
  obtain⟨m,rfl⟩:∃ m:Nat,n=m:=⟨n.toNat,z7⟩
  refine pN g ?_
  unfold pA
  by_cases h2:chk (L p)=0
  .rw[ma (j2 h2)]
   obtain⟨ps,hps⟩:=vB.1 h2
   obtain⟨hl,hg⟩:=qW.1 hps
   have hn:ps≠[]:=fun e=>hp1 (yI (by rw[hl,e];try rfl))
   refine aua g z7 ?_
   obtain⟨hd1,hd2⟩:=ass 9 m (by show m<10000000000;omega)
   have e1:i64.wrap (10 - ((S (Lib.decDigits m)).size:Int))=((9+1 - (Lib.decDigits m).length:Nat):Int):=by
    rw[ahl,SL.wd z7 z7];omega
   rw[e1]
   refine aq1 z7 ?_
   have hsz:p.size=(mk ps).length:=by rw[<-zd,hl]
   have h128:=hg.len
   rw[ahO,hd2]
   refine⟨by simp only[ahl,List.length_replicate];omega,by rw[ahl,anL];omega,?_⟩
   have e2:p++S (aep (9+1) m)=S (L p++pO m):=by
    conv=>lhs;rw[<-S_L p]
    rw[ahO];try rfl
   rw[e2]
   refine pN g ?_
   rw[L_S]
   have hsuf:pP (L p) (m:Int)=if(parts (L p++pO m)).isSome then some (L p++pO m)else none:=by
    unfold pP;rw[hps];simp only;rw[ma fun h=>h.elim hn z7]
   by_cases h3:chk (L p++pO m)=0
   .rw[ma (j2 h3)]
    obtain⟨qs,hqs⟩:=vB.1 h3
    refine hsome _ ?_
    rw[hsuf,hqs];try rfl
   .rw[mc (j2 h3)]
    have e3:parts (L p++pO m)=none:=by
     cases h:parts (L p++pO m)with
     | none=>rfl
     | some qs=>exact mu (vB.2 ⟨qs,h⟩) h3
    have:chk (L p++pO m)=20:=by unfold chk;rw[e3];try rfl
    rw[this]
    refine hnone ?_
    rw[hsuf,e3];try rfl
  .rw[mc (j2 h2)]
   refine hnone ?_
   unfold pP
   cases h:parts (L p)with
   | none=>rfl
   | some ps=>exact mu (vB.2 ⟨ps,h⟩) h2
end Pa
namespace G
open Go SL
variable{B:World}{ro I:AH}
def adc(B:World)(ro:AH)(a0:Option Addr)(a1:ByteArray)(I:AH)(Q:Sl->Int->Int->Int->Int->Int->AH->Prop):=
 nw ro I (.cells #[.int .i64 0,.int .i64 0,.int .i64 0,.int .i64 0] 26) fun u0 I=>
 yT B ro a0 a1 I fun u1 u2 I=>
 if¬(u2=0)then
 stN ⟨u0,0,none⟩ (fun I=>
  ∃u3 u4 u5 u6,qe ro I ⟨u0,0,none⟩ 0 [.int .i64 u3,.int .i64 u4,.int .i64 u5,.int .i64 u6]/\
  Q (⟨none,0,0⟩:Sl) u3 u4 u5 u6 u2 I) [.int .i64 0,.int .i64 0,.int .i64 0,.int .i64 0] 0 I
 else
 uh I fun ψ I=>
 ∃p7,u1=some p7/\
 ∃p8,u1=some p8/\
 ∃u9 u10 u11 u12,qe (join ro ψ) (fun _=>none) p8 0 [.int .i64 u9,.int .i64 u10,.int .i64 u11,.int .i64 u12]/\
 ∃u13,qa (join ro ψ) I (p7.add 4)=some (Sl.v u13)/\
 vY B (join ro ψ) u13 I fun u14 I=>
 stN ⟨u0,0,none⟩ (fun I=>
  (qJ ψ I->(fun I=>
  ∃u15 u16 u17 u18,qe ro I ⟨u0,0,none⟩ 0 [.int .i64 u15,.int .i64 u16,.int .i64 u17,.int .i64 u18]/\
  Q u14 u15 u16 u17 u18 0 I) (join ψ I))) [.int .i64 u9,.int .i64 u10,.int .i64 u11,.int .i64 u12] 0 I
theorem aj1{a0 a1 Q}(h:Sep ro I->adc B ro a0 a1 I Q):xy B ro a0 a1 I Q:=by
 refine zb h func25 ntmps25 fun h=>?_;unfold adc at h;refine zw ?_;refine zA (qM rfl wC) h fun u0 h=>?_;refine zc func79 h ?_;rintro v I ⟨u1,u2,rfl,h⟩;refine zw ?_;refine AW.seq ?_;refine zw ?_;refine AW.iff rfl (qp me) h (fun h=>?_) (fun h=>?_)
 .refine zw ?_;refine zm (wD (vs:=[]) (cs:= #[.int .i64 0,.int .i64 0,.int .i64 0,.int .i64 0]) rfl mE wC asj rfl rfl) ?_;refine zsp wC h fun I h=>?_;obtain⟨u3,u4,u5,u6,hc1,h⟩:=h
  exact bRM results25 (wh (ae5 rfl) (wh (vM rfl mE rfl wC hc1) (wh (ae5 rfl) vL))) ⟨_,_,_,_,_,_,rfl,h⟩
 refine zw ?_;refine AW.seq ?_;refine AW.drawnL (fun i=>([0,0,0,3,2,0,0,0,0,0,2,0]:List Nat).getD i 2) [] [0,1,2,5,6,7,8,3,4,9,10,11] mixed h j1 ?_
 clear h
 intro ψ I h
 refine zM h fun p7 h=>?_;refine zg mJ wu ?_;refine zM h fun p8 h=>?_;refine zg mJ wC ?_;obtain⟨u9,u10,u11,u12,hc,h⟩:=h
 refine Dp rfl rfl rfl rfl (avy rfl mE rfl wC rfl hc) ?_
 refine zR mp h fun u13 h=>?_;refine zG func80 h ?_;rintro v I ⟨u14,rfl,h⟩;refine zw ?_;refine Dg rfl rfl rfl rfl (pI rfl wC rfl rfl rfl rfl (zH h fun I h=>?_))
 refine zw ?_;refine⟨_,ze.refl _,fun hdj=>?_⟩
 replace h:=h hdj
 refine zw ?_;obtain⟨u15,u16,u17,u18,hc1,h⟩:=h
 exact bRM results25 (wh (ae5 rfl) (wh (vM rfl mE rfl wC hc1) (wh (ae5 rfl) vL))) ⟨_,_,_,_,_,_,rfl,h⟩
def uB(B:World)(ro:AH)(a0:Option Addr)(a1:ByteArray)(I:AH)(Q:Sl->Int->AH->Prop):=
 nw ro I (.cells #[.string a1] 9) fun u0 I=>
 ∃u1,qa ro I ⟨u0,0,none⟩=some (.string u1)/\
 vz B ro u1 I fun u2 I=>
 if¬(u2=0)then
 Q (⟨none,0,0⟩:Sl) u2 I
 else
 xF B ro a0 I fun u3 I=>
 xr B ro u3 (.func (.func 85) #[] #[.pointer (some ⟨u0,0,none⟩)]) I fun u4 I=>
 Q u4 0 I
theorem aej{a0 a1 Q}(h:Sep ro I->uB B ro a0 a1 I Q):yo B ro a0 a1 I Q:=by
 refine zb h func27 ntmps27 fun h=>?_;unfold uB at h;refine zw ?_;refine zAp (wB rfl rfl) h fun u0 h=>?_;refine AW.seq ?_;refine zL mj h fun u1 h=>?_;refine zC func82 h fun u2 I h=>?_;refine AW.iff rfl (qp me) h (fun h=>?_) (fun h=>?_)
 .exact zrr h
 refine zc func84 h ?_;rintro v I ⟨u3,rfl,h⟩;refine zm (apQ rfl rfl rfl) ?_;refine zc func83 h ?_;rintro v I ⟨u4,rfl,h⟩;exact zrr h
def ag1(B:World)(ro I:AH)(Q:Option Addr->AH->Prop):Prop:=
 nw ro I (.map #[] 0) fun u0 I=>
 nw ro I (.cells #[.int .i64 0,.int .i64 0,.int .i64 0,.int .i64 0,Sl.v (⟨none,0,0⟩:Sl)] 168) fun u1 I=>
 awp prog ro (Instr.mapUpdate 237 (.map (some u0)) (.string (⟨#[47]⟩:ByteArray)) (.pointer (some ⟨u1,0,none⟩))) (fun _ I=>
 nw ro I (.cells #[.map (some u0)] 239) fun u2 I=>
 Q (some ⟨u2,0,none⟩) I) I
theorem anM{Q}(h:Sep ro I->ag1 B ro I Q):agW B ro I Q:=by
 refine zb h func66 ntmps66 fun h=>?_;unfold ag1 at h;refine zw ?_;refine zA (ahj rfl) h fun u0 h=>?_;refine zm (wD (vs:=[]) (cs:= #[.int .i64 0,.int .i64 0,.int .i64 0,.int .i64 0,Sl.v (⟨none,0,0⟩:Sl)]) rfl mJ apS apT rfl rfl) ?_;refine zA (wB rfl rfl) h fun u1 h=>?_;refine zl (agz (.inr rfl) rfl rfl rfl (qj _ h ?_))
 rintro _ I h
 refine zw ?_;refine zm (wD (vs:=[(0,.map (some u0))]) (cs:= #[.map (some u0)]) rfl nq anw atQ rfl rfl) ?_;refine zA (wB rfl rfl) h fun u2 h=>?_;exact zr h
def abz(B:World)(ro:AH)(u0:Nat)(Q:Option Addr->Int->AH->Prop)(I:AH):=
 Q (some ⟨u0,0,none⟩) 0 I
def abA(B:World)(ro:AH)(p0:Addr)(u1:Nat)(Q:Option Addr->Int->AH->Prop):(Unit)->AH->((Unit)->AH->Prop)->Prop:=fun _ I Y7=>
 awp prog ro (Instr.next (.pointer (some p0)) false 0) (fun v I=>
 (v= .tuple #[.bool false]/\
  abz B ro u1 Q I)\/
 (∃(u2:Value) (u3:Value),v= .tuple #[.bool true,u2,u3]/\
  awp prog ro (Instr.entry (.pointer (some p0))) (fun v I=>
  (∃(u4:Value) (u5:Option Addr),v= .tuple #[u4,.pointer u5]/\
   ∃p6,u5=some p6/\
   ∃p7,u5=some p7/\
   ∃u8,qa ro I (p6.add 1)=some (.int .i64 u8)/\
   ∃u9,qa ro I (p7.add 3)=some (.int .i64 u9)/\
   if u8<u9 then
   Q none 13 I
   else
   Y7 () I)) I)) I
def uC(B:World)(ro:AH)(u0:Nat)(Q:Option Addr->Int->AH->Prop)(I:AH):=
 ∃u1,qa ro I ⟨u0,0,none⟩=some (.map u1)/\
 awp prog ro (Instr.range 237 (.map u1)) (fun v I=>
 (∃(p2:Addr),v= .pointer (some p2)/\
  lfpD (abA B ro p2 u0 Q) () I)) I
def xz(B:World)(ro:AH)(u0:Nat)(u1:Option Addr)(u2:ByteArray)(Q:Option Addr->Int->AH->Prop)(Y17:(ByteArray)->AH->Prop)(u3:Bool)(I:AH):=
 if u3=true then
 Q none 13 I
 else
 Y17 (u2) I
def aaR(B:World)(ro:AH)(u0:Nat)(u1:Option Addr)(Q:Option Addr->Int->AH->Prop):(ByteArray)->AH->((ByteArray)->AH->Prop)->Prop:=fun u2 I Y17=>
 uv B ro u1 I fun u3 I=>
 if(0<u3)\/(u2=(⟨#[]⟩:ByteArray))then
 xD B ro u1 I fun u4 I=>
 yp B ro u1 I fun u5 I=>
 nw ro I (.cells #[.int .i64 0,.int .i64 0,.int .i64 0,.int .i64 0,Sl.v u5] 168) fun u6 I=>
 qG B ro u1 I fun u7 I=>
 qG B ro u1 I fun u8 I=>
 qG B ro u1 I fun u9 I=>
 stN ⟨u6,0,none⟩ (fun I=>
  stN ((⟨u6,0,none⟩:Addr).add 1) (fun I=>
  stN ((⟨u6,0,none⟩:Addr).add 2) (fun I=>
   aaf B ro u1 I fun u10 I=>
   if¬(u10=0)then
   xz B ro u0 u1 u4 Q Y17 true I
   else
   ac8 B ro (some ⟨u0,0,none⟩) u4 u2 (some ⟨u6,0,none⟩) I fun u11 I=>
   xz B ro u0 u1 u4 Q Y17 (!u11) I) [.int .i64 u9] 0 I) [.int .i64 u8] 0 I) [.int .i64 u7] 0 I
 else
 uC B ro u0 Q I
def aeq(B:World)(ro:AH)(a0:Sl)(I:AH)(Q:Option Addr->Int->AH->Prop):=
 nw ro I (.map #[] 0) fun u0 I=>
 nw ro I (.cells #[.map (some u0)] 239) fun u1 I=>
 aaK B ro a0 I fun u2 I=>
 lfpD (aaR B ro u1 u2 Q) ((⟨#[]⟩:ByteArray)) I
theorem alc{a0 Q}(h:Sep ro I->aeq B ro a0 I Q):aca B ro a0 I Q:=by
 refine zb h func77 ntmps77 fun h=>?_;unfold aeq at h;refine zw ?_;refine zA (ahj rfl) h fun u0 h=>?_;refine zm (wD (vs:=[(0,.map (some u0))]) (cs:= #[.map (some u0)]) rfl nq anw atQ rfl rfl) ?_;refine zAp (wB rfl rfl) h fun u1 h=>?_;refine AW.seqJ (fun fr I=>ql [(4,.pointer (some ⟨u1,0,none⟩))] fr/\uC B ro u1 Q I) ?_ ?_
 .rintro fr I ⟨hl,h⟩;refine AW.weaken ?_ hl (HLe.refl _)
  unfold uC at h;refine AW.seqJ (fun fr I=>ql [(4,.pointer (some ⟨u1,0,none⟩))] fr/\abz B ro u1 Q I) ?_ ?_
  .rintro fr I ⟨hl,h⟩;refine AW.weaken ?_ hl (HLe.refl _)
   unfold abz at h;exact zrr h
  refine zw ?_;refine zm (kO rfl rfl) ?_;refine zf nq abx ?_;refine zL nB h fun u2 h=>?_;refine zl (anr rfl rfl (qj _ h ?_))
  rintro v I ⟨p3,rfl,h⟩;refine zw ?_;refine qi.loop (fr':=[(4,.pointer (some ⟨u1,0,none⟩)),(63,.pointer (some p3))]) ?_ FL
  refine h (fun _ I=>qi _ _ _ _ _ _ [(4,.pointer (some ⟨u1,0,none⟩)),(63,.pointer (some p3))] I) ?_
  rintro _ I Y7 hY7 h
  show AW _ _ _ _ _ _ _ _
  unfold abA at h;refine zw ?_;refine zl (ans rfl rfl rfl (qj _ h ?_))
  rintro v I (⟨rfl,h⟩ | ⟨u4,u5,rfl,h⟩)
  .refine zw ?_;refine AW.seq ?_;refine AW.no rfl ?_;refine AW.exit ?_;refine zw ?_;refine qT ?_
   refine zw ?_;exact⟨FL,h⟩
  .refine zw ?_;refine AW.seq ?_;refine AW.yes rfl ?_;refine zw ?_;refine zl (apR rfl rfl (qj _ h ?_))
   rintro v I ⟨u6,u7,rfl,h⟩;refine zw ?_;refine AW.seq ?_;refine AW.drawn0 (fun i=>([0,0,0,0,3,0,0,0,0,3,0]:List Nat).getD i 2) [] [0,1,2,3,5,6,7,8,4,9,10] mixed j1 ?_
   refine zM h fun p8 h=>?_;refine zg mJ wC ?_;refine zg mE ty3 ?_;refine zM h fun p9 h=>?_;refine zg mJ wC ?_;refine zg mE ty3 ?_;refine zR mf h fun u10 h=>?_;refine zR mf h fun u11 h=>?_;refine zw ?_;refine wH ?_
   refine zi h (fun h=>?_) fun h=>?_
   rotate_left
   .refine zw ?_;refine qi.head (fr':=[(4,.pointer (some ⟨u1,0,none⟩)),(63,.pointer (some p3))]) ?_ FL
    exact hY7 _ _ h
   exact zrr h
 refine zC func53 h fun u12 I h=>?_;refine qi.loop (fr':=[(4,.pointer (some ⟨u1,0,none⟩)),(6,.pointer u12),(5,.string (⟨#[]⟩:ByteArray))]) ?_ FL
 refine h (fun u13 I=>qi _ _ _ _ _ _ [(4,.pointer (some ⟨u1,0,none⟩)),(6,.pointer u12),(5,.string u13)] I) ?_
 rintro u13 I Y17 hY17 h
 show AW _ _ _ _ _ _ _ _
 unfold aaR at h;refine AW.seq ?_;refine zC func58 h fun u14 I h=>?_;refine wx 3 (decide (0<u14)) [(4,.pointer (some ⟨u1,0,none⟩)),(5,.string u13),(6,.pointer u12),(22,.bool ((decide (0<u14)) || (decide (u13=(⟨#[]⟩:ByteArray)))))] ?_ ?_ ?_
 .intro e3 hk3
  refine zv e3 ?_;exact hk3 _ (Fe e3)
 .intro e3 hk3
  refine zv e3 ?_;exact hk3 _ (Fe e3)
 intro fr hl
 refine Lfr hl ?_
 refine zw ?_;refine AW.iff rfl (wS me me) h (fun h=>?_) (fun h=>?_)
 rotate_left
 .refine AW.exit ?_;refine zw ?_;refine qT ?_
  refine zw ?_;exact⟨FL,h⟩
 refine zc func55 h ?_;rintro v I ⟨u15,rfl,h⟩;refine zc func56 h ?_;rintro v I ⟨u16,rfl,h⟩;refine zm (wD (vs:=[(1,Sl.v u16)]) (cs:= #[.int .i64 0,.int .i64 0,.int .i64 0,.int .i64 0,Sl.v u16]) rfl mJ apS apT rfl rfl) ?_;refine zA (wB rfl rfl) h fun u17 h=>?_;refine zc func54 h ?_;rintro v I ⟨u18,rfl,h⟩;refine zc func54 h ?_;rintro v I ⟨u19,rfl,h⟩;refine zc func54 h ?_
 rintro v I ⟨u20,rfl,h⟩;refine zm (kO rfl rfl) ?_;refine zf mJ wC ?_;refine zf mE ty3 ?_;refine zs ty3 h fun I h=>?_;refine zm (kO rfl rfl) ?_;refine zf mJ wC ?_;refine zf mE ty3 ?_;refine zs ty3 h fun I h=>?_;refine zm (kO rfl rfl) ?_;refine zf mJ wC ?_;refine zf mE ty3 ?_;refine zsp ty3 h fun I h=>?_
 refine AW.seq ?_;refine zC func57 h fun u21 I h=>?_;refine qE 7 (!(decide (u21=0))) (qp me) h (fun fr I=> ∃(u22:Bool),ql [(4,.pointer (some ⟨u1,0,none⟩)),(6,.pointer u12),(7,.string u15),(57,.bool u22)] fr/\xz B ro u1 u12 u15 Q Y17 u22 I) ?_ ?_ ?_
 .intro h e3 hk3;refine zv e3 ?_;exact hk3 _ _ ⟨_,FL,h⟩
 .intro h e3 hk3;refine zv e3 ?_;refine Lyb rfl rfl rfl rfl e3 (xp rfl func133 rfl rfl rfl (qc.mono h ?_))
  rintro v I ⟨u23,rfl,h⟩;refine zv e3 ?_;exact hk3 _ _ ⟨_,FL,h⟩
 rintro fr I ⟨u22,hl,h⟩;unfold xz at h;refine Lfr hl ?_
 refine zj h (fun h=>?_) fun h=>?_
 .exact zrr h
 refine zw ?_;refine qi.head (fr':=[(4,.pointer (some ⟨u1,0,none⟩)),(6,.pointer u12),(5,.string u15)]) ?_ FL
 exact hY17 _ _ h
def ph(B:World)(ro:AH)(u0:Option Addr)(Q:Sl->AH->Prop)(I:AH):=
 aae B ro u0 I fun u1 u2 I=>
 Q u1 I
def jf(B:World)(ro:AH)(a0 u0:Option Addr)(u1:Sl)(Q:Sl->AH->Prop):Int->AH->(Int->AH->Prop)->Prop:=fun u2 I Y6=>
 if u2<(u1.len:Int)then
 ∃p3,u1.a=some p3/\(0:Int)<=u2/\u2<(u1.len:Int)/\
 ∃u4,qa ro I (p3.add (Int.toNat u2*1))=some (.string u4)/\
 ∃p5,a0=some p5/\
 ∃u6,qa ro I p5=some (.map u6)/\
 awp prog ro (Instr.lookup 237 (.map u6) (.string u4) false) (fun v I=>
  (∃(u7:Option Addr),v= .pointer u7/\
  nw ro I (.cells #[.string u4] 9) fun u8 I=>
  vr B ro u0 (⟨some ⟨u8,0,none⟩,1,1⟩:Sl) I fun I=>
  ∃p9,u7=some p9/\
  ∃u10,qa ro I (p9.add 4)=some (Sl.v u10)/\
  nw ro I (.cells #[Sl.v u10] 24) fun u11 I=>
  jO B ro u0 (⟨some ⟨u11,0,none⟩,1,1⟩:Sl) I fun I=>
  ∃p12,u7=some p12/\
  ∃p13,u7=some p13/\
  ∃p14,u7=some p14/\
  ∃u15,qa ro I p12=some (.int .i64 u15)/\
  ∃u16,qa ro I (p13.add 1)=some (.int .i64 u16)/\
  ∃u17,qa ro I (p14.add 2)=some (.int .i64 u17)/\
  nw ro I (.cells #[.int .i64 u15,.int .i64 u16,.int .i64 u17] 3) fun u18 I=>
  wV B ro u0 (⟨some ⟨u18,0,none⟩,3,3⟩:Sl) I fun I=>
  Y6 (i64.wrap (u2+1)) I)) I
 else
 ph B ro u0 Q I
def abn(B:World)(ro:AH)(a0:Option Addr)(I:AH)(Q:Sl->AH->Prop):=
 aaJ B ro I fun u0 I=>
 xF B ro a0 I fun u1 I=>
 lfpD (jf B ro a0 u0 u1 Q) (0) I
theorem ahV{a0 Q}(h:Sep ro I->abn B ro a0 I Q):pX B ro a0 I Q:=by
 refine zb h func78 ntmps78 fun h=>?_;unfold abn at h;refine zC func43 h fun u0 I h=>?_;refine AW.seqJ (fun fr I=>ql [(3,.pointer u0)] fr/\ph B ro u0 Q I) ?_ ?_
 .rintro fr I ⟨hl,h⟩;refine AW.weaken ?_ hl (HLe.refl _)
  unfold ph at h;refine zc func47 h ?_;rintro v I ⟨u1,u2,rfl,h⟩;exact zr h
 refine zc func84 h ?_;rintro v I ⟨u3,rfl,h⟩;refine zm (qA rfl rfl mv rfl rfl) ?_;refine zw ?_;refine qi.loop (fr':=[(0,.pointer a0),(3,.pointer u0),(11,Sl.v u3),(12,.int .i64 (u3.len:Int)),(13,.int .i64 0)]) ?_ FL
 refine h (fun u4 I=>qi _ _ _ _ _ _ [(0,.pointer a0),(3,.pointer u0),(11,Sl.v u3),(12,.int .i64 (u3.len:Int)),(13,.int .i64 u4)] I) ?_
 rintro u4 I Y6 hY6 h
 show AW _ _ _ _ _ _ _ _
 unfold jf at h;refine zw ?_;refine AW.seq ?_;refine zi h (fun h=>?_) fun h=>?_
 rotate_left
 .refine AW.exit ?_;refine zw ?_;refine qT ?_
  refine zw ?_;exact⟨FL,h⟩
 refine zw ?_;refine AW.seq ?_;refine zw ?_;obtain⟨p5,ha,h0,h1,h⟩:=h
 refine zm (zP rfl mv ty9 (ixL rfl ha) rfl h0 h1) ?_;refine zL mj h fun u6 h=>?_;refine zN h fun p7 h=>?_;refine zf nq abx ?_;refine zLp nB h fun u8 h=>?_;refine zl (jB rfl rfl rfl (qj _ h ?_))
 rintro v I ⟨u9,rfl,h⟩;refine zw ?_;refine zA (zo (vs:=[(0,.string u6)]) (cs:= #[.string u6]) rfl mv ty9 y0 rfl rfl) h fun u10 h=>?_;refine zc func45 h ?_;rintro v I ⟨rfl,h⟩;refine zN h fun p11 h=>?_;refine zf mJ wu ?_;refine zL mp h fun u12 h=>?_;refine zA (zo (vs:=[(0,Sl.v u12)]) (cs:= #[Sl.v u12]) rfl Lw wu y0 rfl rfl) h fun u13 h=>?_
 refine zc func46 h ?_;rintro v I ⟨rfl,h⟩;refine zw ?_;refine AW.drawn0 (fun i=>([0,0,0,0,0,3,0,0,0,0,3,0,0,0,0,3,1,2]:List Nat).getD i 2) [(5,16),(5,17),(10,16),(10,17),(15,16),(15,17)] [0,1,2,3,4,6,7,8,9,11,12,13,14,5,10,15,16,17] mixed j1 ?_
 refine zM h fun p14 h=>?_;refine zg mJ wC ?_;refine zg mE ty3 ?_;refine zM h fun p15 h=>?_;refine zg mJ wC ?_;refine zg mE ty3 ?_;refine zM h fun p16 h=>?_;refine zg mJ wC ?_;refine zg mE ty3 ?_;refine zR mf h fun u17 h=>?_;refine zR mf h fun u18 h=>?_;refine zR mf h fun u19 h=>?_
 refine Da rfl rfl rfl rfl (zo (vs:=[(0,.int .i64 u17),(1,.int .i64 u18),(2,.int .i64 u19)]) (cs:= #[.int .i64 u17,.int .i64 u18,.int .i64 u19]) rfl mR ty3 y0 rfl rfl) fun u20 g1 g2=>?_
 replace h:=h u20 g1 g2
 refine zG func44 h ?_;rintro v I ⟨rfl,h⟩;refine wH ?_
 refine zw ?_;refine qi.head (fr':=[(0,.pointer a0),(3,.pointer u0),(11,Sl.v u3),(12,.int .i64 (u3.len:Int)),(13,.int .i64 (i64.wrap (u4+1)))]) ?_ FL
 exact hY6 _ _ h
def acr(B:World)(ro:AH)(a0:Option Addr)(a1:ByteArray)(I:AH)(Q:Option Addr->Int->AH->Prop):=
 vz B ro a1 I fun u0 I=>
 if¬(u0=0)then
 Q none u0 I
 else
 ∃p1,a0=some p1/\
 ∃u2,qa ro I p1=some (.map u2)/\
 awp prog ro (Instr.lookup 237 (.map u2) (.string a1) false) (fun v I=>
 (∃(u3:Option Addr),v= .pointer u3/\
  if u3=none then
  Q none 70 I
  else
  Q u3 0 I)) I
theorem ai8{a0 a1 Q}(h:Sep ro I->acr B ro a0 a1 I Q):yT B ro a0 a1 I Q:=by
 refine zb h func79 ntmps79 fun h=>?_;unfold acr at h;refine zw ?_;refine AW.seq ?_;refine zC func82 h fun u0 I h=>?_;refine AW.iff rfl (qp me) h (fun h=>?_) (fun h=>?_)
 .exact zrr h
 refine zN h fun p1 h=>?_;refine zf nq abx ?_;refine zLp nB h fun u2 h=>?_;refine zl (jB rfl rfl rfl (qj _ h ?_))
 rintro v I ⟨u3,rfl,h⟩;refine zw ?_;refine AW.seq ?_;refine zw ?_;refine zm (aeC rfl LR rfl rfl) ?_;refine zw ?_;refine AW.iff rfl zQ h (fun h=>?_) (fun h=>?_)
 .exact zrr h
 exact zrr h
def abO(B:World)(ro:AH)(a0:Option Addr)(I:AH)(Q:Sl->AH->Prop):=
 ∃p0,a0=some p0/\
 ∃u1,qa ro I p0=some (.map u1)/\
 acG B ro u1 I fun u2 I=>
 yf B ro u2 I fun u3 I=>
 Q u3 I
theorem aiJ{a0 Q}(h:Sep ro I->abO B ro a0 I Q):xF B ro a0 I Q:=by
 refine zb h func84 ntmps84 fun h=>?_;unfold abO at h;refine zN h fun p0 h=>?_;refine zf nq abx ?_;refine zL nB h fun u1 h=>?_;refine zc func137 h ?_;rintro u2 I ⟨_,rfl,h⟩
 refine zc func136 h ?_;rintro v I ⟨u3,rfl,h⟩;exact zr h
def yJ(B:World)(ro:AH)(a0:ByteArray)(a1:Addr)(I:AH)(Q:Bool->AH->Prop):=
 ∃u0,qa ro I a1=some (.string u0)/\
 afZ B ro u0 a0 I fun u1 u2 I=>
 Q (!u1) I
theorem acJ{a0 a1 Q}(h:Sep ro I->yJ B ro a0 a1 I Q):adA B ro a0 a1 I Q:=by
 refine zb h func85 ntmps85 fun h=>?_;unfold yJ at h;refine zL mj h fun u0 h=>?_;refine zc func86 h ?_;rintro v I ⟨u1,u2,rfl,h⟩;exact zr h
def ku(B:World)(ro:AH)(a0:Option Addr)(a2:Sl)(a3:Int)(u0:Option Addr)(Q:ByteArray->Int->AH->Prop)(u1:ByteArray)(I:AH):=
 ∃p2,a0=some p2/\
 ∃u3,qa ro I p2=some (.map u3)/\
 awp prog ro (Instr.lookup 237 (.map u3) (.string u1) false) (fun v I=>
 (∃(u4:Option Addr),v= .pointer u4/\
  if¬(u4=none)then
  Q (⟨#[]⟩:ByteArray) 71 I
  else
  uh I fun ψ I=>
  ∃p5,a0=some p5/\
  ∃u6,qa (join ro ψ) (fun _=>none) p5=some (.map u6)/\
  vY B (join ro ψ) a2 I fun u7 I=>
  nw (join ro ψ) I (.cells #[.int .i64 0,.int .i64 0,.int .i64 a3,.int .i64 0,Sl.v u7] 168) fun u8 I=>
  awp prog (join ro ψ) (Instr.mapUpdate 237 (.map u6) (.string u1) (.pointer (some ⟨u8,0,none⟩))) (fun _ I=>
   (qJ ψ I->(fun I=>
   ∃p9,u0=some p9/\
   ∃u10,qa ro I (p9.add 1)=some (.int .i64 u10)/\
   ∃p11,u0=some p11/\
   stN (p11.add 1) (fun I=>
    ∃p12,u0=some p12/\
    ∃u13,qa ro I (p12.add 3)=some (.int .i64 u13)/\
    ∃p14,u0=some p14/\
    stN (p14.add 3) (fun I=>
    Q u1 0 I) [.int .i64 (i64.wrap (u13+1))] 0 I) [.int .i64 (i64.wrap (u10+1))] 0 I) (join ψ I))) I)) I
def abo(B:World)(ro:AH)(a0:Option Addr)(a1:ByteArray)(a2:Sl)(a3:Int)(a4:Bool)(I:AH)(Q:ByteArray->Int->AH->Prop):=
 yP B ro a1 I fun u0 u1 I=>
 if¬(u1=0)then
 Q (⟨#[]⟩:ByteArray) u1 I
 else
 if 256<(a2.len:Int)then
 Q (⟨#[]⟩:ByteArray) 75 I
 else
 if(a3<0)\/(4611686018427387903<a3)then
 Q (⟨#[]⟩:ByteArray) 10 I
 else
 ∃p2,a0=some p2/\
 ∃u3,qa ro I p2=some (.map u3)/\
 awp prog ro (Instr.lookup 237 (.map u3) (.string u0) false) (fun v I=>
 (∃(u4:Option Addr),v= .pointer u4/\
  if u4=none then
  Q (⟨#[]⟩:ByteArray) 70 I
  else
  ∃p5,u4=some p5/\
  ∃u6,qa ro I (p5.add 2)=some (.int .i64 u6)/\
  if¬(u6=0)then
  Q (⟨#[]⟩:ByteArray) 74 I
  else
  ∃p7,u4=some p7/\
  ∃u8,qa ro I (p7.add 1)=some (.int .i64 u8)/\
  if 9999999999<u8 then
  Q (⟨#[]⟩:ByteArray) 76 I
  else
  if a4=true then
  ∃p9,u4=some p9/\
  ∃u10,qa ro I (p9.add 1)=some (.int .i64 u10)/\
  afa B ro a1 u10 I fun u11 u12 I=>
  if¬(u12=0)then
   Q (⟨#[]⟩:ByteArray) u12 I
  else
  ku B ro a0 a2 a3 u4 Q u11 I
  else
  ku B ro a0 a2 a3 u4 Q a1 I)) I
theorem ahW{a0 a1 a2 a3 a4 Q}(h:Sep ro I->abo B ro a0 a1 a2 a3 a4 I Q):jP B ro a0 a1 a2 a3 a4 I Q:=by
 refine zb h func122 ntmps122 fun h=>?_;unfold abo at h;refine zc func179 h ?_;rintro v I ⟨u0,u1,rfl,h⟩;refine zw ?_;refine AW.seq ?_;refine zw ?_;refine AW.iff rfl (qp me) h (fun h=>?_) (fun h=>?_)
 .exact zrr h
 refine zw ?_;refine zm (qA rfl rfl mp rfl rfl) ?_;refine zi h (fun h=>?_) fun h=>?_
 .exact zrr h
 refine zw ?_;refine wx 3 (decide (a3<0)) [(0,.pointer a0),(1,.string a1),(2,Sl.v a2),(3,.int .i64 a3),(4,.bool a4),(12,.string u0),(34,.bool ((decide (a3<0)) || (decide (4611686018427387903<a3))))] ?_ ?_ ?_
 .intro e2 hk2
  refine zv e2 ?_;exact hk2 _ (Fe e2)
 .intro e2 hk2
  refine zv e2 ?_;exact hk2 _ (Fe e2)
 intro fr hl
 refine Lfr hl ?_
 refine zw ?_;refine AW.iff rfl (wS me me) h (fun h=>?_) (fun h=>?_)
 .exact zrr h
 refine zN h fun p2 h=>?_;refine zf nq abx ?_;refine zLp nB h fun u3 h=>?_;refine zl (jB rfl rfl rfl (qj _ h ?_))
 rintro v I ⟨u4,rfl,h⟩;refine zw ?_;refine AW.seq ?_;refine zw ?_;refine zm (aeC rfl LR rfl rfl) ?_;refine zw ?_;refine AW.iff rfl zQ h (fun h=>?_) (fun h=>?_)
 .exact zrr h
 refine zN h fun p5 h=>?_;refine zf mJ wC ?_;refine zf mE ty3 ?_;refine zLp mf h fun u6 h=>?_;refine AW.iff rfl (qp me) h (fun h=>?_) (fun h=>?_)
 .exact zrr h
 refine zN h fun p7 h=>?_;refine zf mJ wC ?_;refine zf mE ty3 ?_;refine zL mf h fun u8 h=>?_;refine zi h (fun h=>?_) fun h=>?_
 .exact zrr h
 refine zw ?_;refine AW.seqJ (fun fr I=> ∃(u9:ByteArray),ql [(0,.pointer a0),(2,Sl.v a2),(3,.int .i64 a3),(14,.pointer u4),(1,.string u9)] fr/\ku B ro a0 a2 a3 u4 Q u9 I) ?_ ?_
 rotate_left
 .refine zj h (fun h=>?_) fun h=>?_
  rotate_left
  .refine zw ?_;exact⟨_,FL,h⟩
  refine zN h fun p10 h=>?_;refine zf mJ wC ?_;refine zf mE ty3 ?_;refine zL mf h fun u11 h=>?_;refine zc func180 h ?_;rintro v I ⟨u12,u13,rfl,h⟩;refine zw ?_;refine AW.iff rfl (qp me) h (fun h=>?_) (fun h=>?_)
  rotate_left
  .refine zw ?_;exact⟨_,FL,h⟩
  exact zrr h
 rintro fr I ⟨u9,hl,h⟩;refine AW.weaken ?_ hl (HLe.refl _)
 unfold ku at h;refine AW.seq ?_;refine zN h fun p14 h=>?_;refine zf nq abx ?_;refine zLp nB h fun u15 h=>?_;refine zl (jB rfl rfl rfl (qj _ h ?_))
 rintro v I ⟨u16,rfl,h⟩;refine zm (anp rfl LR rfl rfl) ?_;refine zw ?_;refine AW.iff rfl (qp zQ) h (fun h=>?_) (fun h=>?_)
 .exact zrr h
 refine zw ?_;refine AW.seq ?_;refine AW.drawnL (fun i=>([0,0,0,0,0,0,0,0,2,0,1,2]:List Nat).getD i 2) [] [0,1,2,3,4,5,6,7,8,9,10,11] mixed h j1 ?_
 clear h
 intro ψ I h
 refine zM h fun p17 h=>?_;refine zg nq abx ?_;refine zS nB h fun u18 h=>?_;refine zw ?_;refine Dp rfl rfl rfl rfl (wD (vs:=[(2,.int .i64 a3)]) (cs:= #[.int .i64 0,.int .i64 0,.int .i64 a3,.int .i64 0]) rfl mE wC asj rfl rfl) ?_
 refine zG func80 h ?_;rintro v I ⟨u19,rfl,h⟩;refine Dp rfl rfl rfl rfl (wD (vs:=[(0,.agg #[.int .i64 0,.int .i64 0,.int .i64 a3,.int .i64 0]),(1,Sl.v u19)]) (cs:= #[.int .i64 0,.int .i64 0,.int .i64 a3,.int .i64 0,Sl.v u19]) rfl mJ apS apT rfl rfl) ?_
 refine Da rfl rfl rfl rfl (wB rfl rfl) fun u20 g1 g2=>?_
 replace h:=h u20 g1 g2
 refine Dg rfl rfl rfl rfl (agz (.inl rfl) rfl rfl rfl (qj _ h ?_))
 rintro _ I h
 refine⟨_,ze.refl _,fun hdj=>?_⟩
 replace h:=h hdj
 refine zN h fun p21 h=>?_;refine zf mJ wC ?_;refine zf mE ty3 ?_;refine zL mf h fun u22 h=>?_;refine zN h fun p23 h=>?_;refine zf mJ wC ?_;refine zf mE ty3 ?_;refine zs ty3 h fun I h=>?_;refine zN h fun p24 h=>?_;refine zf mJ wC ?_;refine zf mE ty3 ?_;refine zL mf h fun u25 h=>?_;refine zN h fun p26 h=>?_
 refine zf mJ wC ?_;refine zf mE ty3 ?_;refine zs ty3 h fun I h=>?_;exact zrr h
def kJ(B:World)(ro:AH)(Q:Bool->AH->Prop)(u0:Bool)(I:AH):=
 Q u0 I
def xI(B:World)(ro:AH)(a3:Option Addr)(Q:Bool->AH->Prop)(u0:Bool)(I:AH):=
 if u0=true then
 ∃p1,a3=some p1/\
 ∃u2,qa ro I (p1.add 2)=some (.int .i64 u2)/\
 kJ B ro Q (decide (u2=0)) I
 else
 kJ B ro Q false I
def xJ(B:World)(ro:AH)(a3:Option Addr)(Q:Bool->AH->Prop)(u0:Bool)(I:AH):=
 if u0=true then
 ∃p1,a3=some p1/\
 ∃u2,qa ro I p1=some (.int .i64 u2)/\
 xI B ro a3 Q (decide (u2=0)) I
 else
 xI B ro a3 Q false I
def vf(B:World)(ro:AH)(a0:Option Addr)(a1:ByteArray)(a3 u0:Option Addr)(Q:Bool->AH->Prop)(u1:Bool)(I:AH):=
 if u1=true then
 Q false I
 else
 ∃p2,u0=some p2/\
 ∃u3,qa ro I (p2.add 3)=some (.int .i64 u3)/\
 ∃p4,u0=some p4/\
 stN (p4.add 3) (fun I=>
 ∃p5,a0=some p5/\
 ∃u6,qa ro I p5=some (.map u6)/\
 awp prog ro (Instr.mapUpdate 237 (.map u6) (.string a1) (.pointer a3)) (fun _ I=>
  Q true I) I) [.int .i64 (i64.wrap (u3+1))] 0 I
def kh(B:World)(ro:AH)(a0:Option Addr)(a1 a2:ByteArray)(a3:Option Addr)(Q:Bool->AH->Prop)(u0:Bool)(I:AH):=
 if u0=true then
 Q false I
 else
 if a2=(⟨#[]⟩:ByteArray)then
 ∃p1,a0=some p1/\
 ∃u2,qa ro I p1=some (.map u2)/\
 awp prog ro (Instr.mapUpdate 237 (.map u2) (.string a1) (.pointer a3)) (fun _ I=>
  if a1=(⟨#[47]⟩:ByteArray)then
  ∃p3,a3=some p3/\
  ∃u4,qa ro I (p3.add 4)=some (Sl.v u4)/\
  xJ B ro a3 Q (decide ((u4.len:Int)=0)) I
  else
  xJ B ro a3 Q false I) I
 else
 yP B ro a1 I fun u5 u6 I=>
 ∃p7,a0=some p7/\
 ∃u8,qa ro I p7=some (.map u8)/\
 awp prog ro (Instr.lookup 237 (.map u8) (.string u5) false) (fun v I=>
 (∃(u9:Option Addr),v= .pointer u9/\
  if u9=none then
  vf B ro a0 a1 a3 u9 Q true I
  else
  ∃p10,u9=some p10/\
  ∃u11,qa ro I (p10.add 2)=some (.int .i64 u11)/\
  vf B ro a0 a1 a3 u9 Q (!(decide (u11=0))) I)) I
def xK(B:World)(ro:AH)(a0:Option Addr)(a1 a2:ByteArray)(a3:Option Addr)(u0:Bool)(Q:Bool->AH->Prop)(u1:Bool)(I:AH):=
 kh B ro a0 a1 a2 a3 Q u1 I
def xb(B:World)(ro:AH)(a0:Option Addr)(a1 a2:ByteArray)(a3:Option Addr)(Q:Bool->AH->Prop)(u0:Bool)(I:AH):=
 if u0=true then
 kh B ro a0 a1 a2 a3 Q true I
 else
 ∃p1,a3=some p1/\
 ∃u2,qa ro I (p1.add 2)=some (.int .i64 u2)/\
 if¬(u2=0)then
 ∃p3,a3=some p3/\
 ∃u4,qa ro I (p3.add 1)=some (.int .i64 u4)/\
 xK B ro a0 a1 a2 a3 u0 Q (decide (0<u4)) I
 else
 xK B ro a0 a1 a2 a3 u0 Q false I
def xc(B:World)(ro:AH)(a0:Option Addr)(a1 a2:ByteArray)(a3:Option Addr)(Q:Bool->AH->Prop)(u0:Bool)(I:AH):=
 if u0=true then
 xb B ro a0 a1 a2 a3 Q true I
 else
 ∃p1,a3=some p1/\
 ∃u2,qa ro I (p1.add 1)=some (.int .i64 u2)/\
 xb B ro a0 a1 a2 a3 Q (decide (10000000000<u2)) I
def ade(B:World)(ro:AH)(a0:Option Addr)(a1 a2:ByteArray)(a3:Option Addr)(I:AH)(Q:Bool->AH->Prop):=
 vz B ro a1 I fun u0 I=>
 if(¬(u0=0))\/(((agy a1 a2)=true)\/(a1=a2))then
 xc B ro a0 a1 a2 a3 Q true I
 else
 ∃p1,a3=some p1/\
 ∃u2,qa ro I (p1.add 4)=some (Sl.v u2)/\
 xc B ro a0 a1 a2 a3 Q (decide (256<(u2.len:Int))) I
theorem aj2{a0 a1 a2 a3 Q}(h:Sep ro I->ade B ro a0 a1 a2 a3 I Q):ac8 B ro a0 a1 a2 a3 I Q:=by
 refine zb h func133 ntmps133 fun h=>?_;unfold ade at h;refine zw ?_;refine AW.seq ?_;refine zC func82 h fun u0 I h=>?_;refine wx 4 (!(decide (u0=0))) [(0,.pointer a0),(1,.string a1),(2,.string a2),(3,.pointer a3),(20,.bool ((!(decide (u0=0))) || ((agy a1 a2) || (decide (a1=a2)))))] ?_ ?_ ?_
 .intro e3 hk3
  refine zv e3 ?_;exact hk3 _ (Fe e3)
 .intro e3 hk3
  refine zv e3 ?_;refine qH (auV rfl rfl rfl) rfl rfl rfl rfl e3 ?_
  refine zk e3 ?_;exact hk3 _ (Fe e3)
 intro fr hl
 refine Lfr hl ?_
 refine zw ?_;refine qE 7 ((!(decide (u0=0))) || ((agy a1 a2) || (decide (a1=a2)))) (wS (qp me) (wS Iff.rfl me)) h (fun fr I=> ∃(u1:Bool),ql [(0,.pointer a0),(1,.string a1),(2,.string a2),(3,.pointer a3),(28,.bool u1)] fr/\xc B ro a0 a1 a2 a3 Q u1 I) ?_ ?_ ?_
 .intro h e8 hk8;refine zv e8 ?_;exact hk8 _ _ ⟨_,FL,h⟩
 .intro h e8 hk8;refine zy e8 ?_;obtain⟨p2,hc,h⟩:=h
  refine qH (kO rfl (by rw[<-hc];try rfl)) rfl rfl rfl rfl e8 ?_
  refine qH (qX rfl mJ rfl wu y0 rfl) rfl rfl rfl rfl e8 ?_
  obtain⟨u3,hc,h⟩:=h
  refine Lyb rfl rfl rfl rfl e8 (vR rfl mp rfl rfl hc ?_)
  refine qH (qA rfl rfl mp rfl rfl) rfl rfl rfl rfl e8 ?_
  refine zv e8 ?_;exact hk8 _ _ ⟨_,FL,h⟩
 rintro fr I ⟨u1,hl,h⟩;unfold xc at h;refine Lfr hl ?_
 refine zw ?_;refine qE 7 u1 Iff.rfl h (fun fr I=> ∃(u4:Bool),ql [(0,.pointer a0),(1,.string a1),(2,.string a2),(3,.pointer a3),(36,.bool u4)] fr/\xb B ro a0 a1 a2 a3 Q u4 I) ?_ ?_ ?_
 .intro h e16 hk16;refine zv e16 ?_;exact hk16 _ _ ⟨_,FL,h⟩
 .intro h e16 hk16;refine zy e16 ?_;obtain⟨p5,hc,h⟩:=h
  refine qH (kO rfl (by rw[<-hc];try rfl)) rfl rfl rfl rfl e16 ?_
  refine qH (qX rfl mJ rfl wC y0 rfl) rfl rfl rfl rfl e16 ?_
  refine qH (qX rfl mE rfl ty3 y0 rfl) rfl rfl rfl rfl e16 ?_
  obtain⟨u6,hc,h⟩:=h
  refine Lyb rfl rfl rfl rfl e16 (vR rfl mf rfl rfl hc ?_)
  refine zv e16 ?_;exact hk16 _ _ ⟨_,FL,h⟩
 rintro fr I ⟨u4,hl,h⟩;unfold xb at h;refine Lfr hl ?_
 refine zw ?_;refine qE 15 u4 Iff.rfl h (fun fr I=> ∃(u7:Bool),ql [(0,.pointer a0),(1,.string a1),(2,.string a2),(3,.pointer a3),(52,.bool u7)] fr/\kh B ro a0 a1 a2 a3 Q u7 I) ?_ ?_ ?_
 .intro h e24 hk24;refine zv e24 ?_;refine Ln rfl rfl rfl rfl (.inr rfl) ?_
  refine Ln rfl rfl rfl rfl (.inr rfl) ?_
  refine Ln rfl rfl rfl rfl (.inr rfl) ?_
  refine Ln rfl rfl rfl rfl (.inr rfl) ?_
  refine Ln rfl rfl rfl rfl (.inr rfl) ?_
  refine Ln rfl rfl rfl rfl (.inr rfl) ?_
  refine zv e24 ?_;exact hk24 _ _ ⟨_,FL,h⟩
 .intro h e24 hk24;refine zy e24 ?_;obtain⟨p8,hc,h⟩:=h
  refine qH (kO rfl (by rw[<-hc];try rfl)) rfl rfl rfl rfl e24 ?_
  refine qH (qX rfl mJ rfl wC y0 rfl) rfl rfl rfl rfl e24 ?_
  refine qH (qX rfl mE rfl ty3 y0 rfl) rfl rfl rfl rfl e24 ?_
  obtain⟨u9,hc,h⟩:=h
  refine Lyb rfl rfl rfl rfl e24 (vR rfl mf rfl rfl hc ?_)
  refine zv e24 ?_;refine qE 7 (!(decide (u9=0))) (qp me) h (fun fr I=> ∃(u10:Bool),ql [(0,.pointer a0),(1,.string a1),(2,.string a2),(3,.pointer a3),(37,.bool u4),(51,.bool u10)] fr/\xK B ro a0 a1 a2 a3 u4 Q u10 I) ?_ ?_ ?_
  .intro h e31 hk31;refine zy e31 ?_;obtain⟨p11,hc,h⟩:=h
   refine qH (kO rfl (by rw[<-hc];try rfl)) rfl rfl rfl rfl e31 ?_
   refine qH (qX rfl mJ rfl wC y0 rfl) rfl rfl rfl rfl e31 ?_
   refine qH (qX rfl mE rfl ty3 y0 rfl) rfl rfl rfl rfl e31 ?_
   obtain⟨u12,hc,h⟩:=h
   refine Lyb rfl rfl rfl rfl e31 (vR rfl mf rfl rfl hc ?_)
   refine zy e31 ?_;refine qH (jT rfl (evb e31) rfl) rfl rfl rfl rfl e24 ?_
   exact hk31 _ _ ⟨_,FL,h⟩
  .intro h e31 hk31;refine zv e31 ?_;refine qH (yH rfl (evb e31) rfl) rfl rfl rfl rfl e24 ?_
   exact hk31 _ _ ⟨_,FL,h⟩
  rintro fr I ⟨u10,hl,h⟩;unfold xK at h;refine Lfr hl ?_
  refine zk e24 ?_;exact hk24 _ _ ⟨_,FL,h⟩
 rintro fr I ⟨u7,hl,h⟩;unfold kh at h;refine Lfr hl ?_
 refine zj h (fun h=>?_) fun h=>?_
 .exact zr h
 refine zi h (fun h=>?_) fun h=>?_
 rotate_left
 .refine zc func179 h ?_;rintro v I ⟨u13,u14,rfl,h⟩;refine zN h fun p15 h=>?_;refine zf nq abx ?_;refine zLp nB h fun u16 h=>?_;refine zl (jB rfl rfl rfl (qj _ h ?_))
  rintro v I ⟨u17,rfl,h⟩;refine zw ?_;refine AW.seq ?_;refine zw ?_;refine zm (aeC rfl LR rfl rfl) ?_;refine zw ?_;refine qE 7 u17.isNone zQ h (fun fr I=> ∃(u18:Bool),ql [(0,.pointer a0),(1,.string a1),(3,.pointer a3),(11,.pointer u17),(108,.bool u18)] fr/\vf B ro a0 a1 a3 u17 Q u18 I) ?_ ?_ ?_
  .intro h e2 hk2;refine zv e2 ?_;exact hk2 _ _ ⟨_,FL,h⟩
  .intro h e2 hk2;refine zy e2 ?_;obtain⟨p19,hc,h⟩:=h
   refine qH (kO rfl (by rw[<-hc];try rfl)) rfl rfl rfl rfl e2 ?_
   refine qH (qX rfl mJ rfl wC y0 rfl) rfl rfl rfl rfl e2 ?_
   refine qH (qX rfl mE rfl ty3 y0 rfl) rfl rfl rfl rfl e2 ?_
   obtain⟨u20,hc,h⟩:=h
   refine Lyb rfl rfl rfl rfl e2 (vR rfl mf rfl rfl hc ?_)
   refine zv e2 ?_;exact hk2 _ _ ⟨_,FL,h⟩
  rintro fr I ⟨u18,hl,h⟩;unfold vf at h;refine Lfr hl ?_
  refine zj h (fun h=>?_) fun h=>?_
  .exact zr h
  refine zN h fun p21 h=>?_;refine zf mJ wC ?_;refine zf mE ty3 ?_;refine zL mf h fun u22 h=>?_;refine zN h fun p23 h=>?_;refine zf mJ wC ?_;refine zf mE ty3 ?_;refine zs ty3 h fun I h=>?_;refine zN h fun p24 h=>?_;refine zf nq abx ?_;refine zLp nB h fun u25 h=>?_;refine zl (agz (.inl rfl) rfl rfl rfl (qj _ h ?_))
  rintro _ I h
  exact zr h
 refine zN h fun p26 h=>?_;refine zf nq abx ?_;refine zLp nB h fun u27 h=>?_;refine zl (agz (.inl rfl) rfl rfl rfl (qj _ h ?_))
 rintro _ I h
 refine zw ?_;refine qE 7 (decide (a1=(⟨#[47]⟩:ByteArray))) me h (fun fr I=> ∃(u28:Bool),ql [(3,.pointer a3),(71,.bool u28)] fr/\xJ B ro a3 Q u28 I) ?_ ?_ ?_
 .intro h e2 hk2;refine zy e2 ?_;obtain⟨p29,hc,h⟩:=h
  refine qH (kO rfl (by rw[<-hc];try rfl)) rfl rfl rfl rfl e2 ?_
  refine qH (qX rfl mJ rfl wu y0 rfl) rfl rfl rfl rfl e2 ?_
  obtain⟨u30,hc,h⟩:=h
  refine Lyb rfl rfl rfl rfl e2 (vR rfl mp rfl rfl hc ?_)
  refine qH (qA rfl rfl mp rfl rfl) rfl rfl rfl rfl e2 ?_
  refine zv e2 ?_;exact hk2 _ _ ⟨_,FL,h⟩
 .intro h e2 hk2;refine zv e2 ?_;exact hk2 _ _ ⟨_,FL,h⟩
 rintro fr I ⟨u28,hl,h⟩;unfold xJ at h;refine Lfr hl ?_
 refine zw ?_;refine qE 7 u28 Iff.rfl h (fun fr I=> ∃(u31:Bool),ql [(3,.pointer a3),(79,.bool u31)] fr/\xI B ro a3 Q u31 I) ?_ ?_ ?_
 .intro h e10 hk10;refine zy e10 ?_;obtain⟨p32,hc,h⟩:=h
  refine qH (kO rfl (by rw[<-hc];try rfl)) rfl rfl rfl rfl e10 ?_
  refine qH (qX rfl mJ rfl wC y0 rfl) rfl rfl rfl rfl e10 ?_
  refine qH (qX rfl mE rfl ty3 y0 rfl) rfl rfl rfl rfl e10 ?_
  obtain⟨u33,hc,h⟩:=h
  refine Lyb rfl rfl rfl rfl e10 (vR rfl mf rfl rfl hc ?_)
  refine zv e10 ?_;exact hk10 _ _ ⟨_,FL,h⟩
 .intro h e10 hk10;refine zv e10 ?_;exact hk10 _ _ ⟨_,FL,h⟩
 rintro fr I ⟨u31,hl,h⟩;unfold xI at h;refine Lfr hl ?_
 refine zw ?_;refine qE 7 u31 Iff.rfl h (fun fr I=> ∃(u34:Bool),ql [(87,.bool u34)] fr/\kJ B ro Q u34 I) ?_ ?_ ?_
 .intro h e18 hk18;refine zy e18 ?_;obtain⟨p35,hc,h⟩:=h
  refine qH (kO rfl (by rw[<-hc];try rfl)) rfl rfl rfl rfl e18 ?_
  refine qH (qX rfl mJ rfl wC y0 rfl) rfl rfl rfl rfl e18 ?_
  refine qH (qX rfl mE rfl ty3 y0 rfl) rfl rfl rfl rfl e18 ?_
  obtain⟨u36,hc,h⟩:=h
  refine Lyb rfl rfl rfl rfl e18 (vR rfl mf rfl rfl hc ?_)
  refine zv e18 ?_;exact hk18 _ _ ⟨_,FL,h⟩
 .intro h e18 hk18;refine zv e18 ?_;exact hk18 _ _ ⟨_,FL,h⟩
 rintro fr I ⟨u34,hl,h⟩;unfold kJ at h;refine Lfr hl ?_
 exact zr h
def ub(B:World)(ro:AH)(Q:Sl->AH->Prop)(u0:Sl)(I:AH):=
 Q u0 I
def xm(B:World)(ro:AH)(a0:Option Addr)(a1 u0:Sl)(u1:Int)(Q:Sl->AH->Prop)(Y4:(Sl×Int)->AH->Prop)(u2:Sl)(I:AH):=
 Y4 (u2,i64.wrap (u1+1)) I
def kQ(B:World)(ro:AH)(a0:Option Addr)(a1 u0 u1:Sl)(u2:Int)(u3:ByteArray)(Q:Sl->AH->Prop)(Y4:(Sl×Int)->AH->Prop)(u4:Bool)(I:AH):=
 if u4=true then
 nw ro I (.cells #[.string u3] 9) fun u5 I=>
 awp prog ro (Builtin.append_ #[27,27] 27 #[Sl.v u0,Sl.v (⟨some ⟨u5,0,none⟩,1,1⟩:Sl)]) (fun v I=> ∃(u6:Sl),v=Sl.v u6/\
  xm B ro a0 a1 u1 u2 Q Y4 u6 I) I
 else
 xm B ro a0 a1 u1 u2 Q Y4 u0 I
def xn(B:World)(ro:AH)(a0:Option Addr)(a1 u0:Sl)(Q:Sl->AH->Prop):(Sl×Int)->AH->((Sl×Int)->AH->Prop)->Prop:=fun⟨u1,u2⟩ I Y4=>
 if u2<(u0.len:Int)then
 ∃p3,u0.a=some p3/\(0:Int)<=u2/\u2<(u0.len:Int)/\
 ∃u4,qa ro I (p3.add (Int.toNat u2*1))=some (.string u4)/\
 ∃p5,a0=some p5/\
 ∃u6,qa ro I p5=some (.map u6)/\
 awp prog ro (Instr.lookup 237 (.map u6) (.string u4) false) (fun v I=>
  (∃(u7:Option Addr),v= .pointer u7/\
  ∃p8,u7=some p8/\
  ∃u9,qa ro I (p8.add 2)=some (.int .i64 u9)/\
  if¬(u9=0)then
   pf B ro a1 u9 I fun u10 I=>
   kQ B ro a0 a1 u1 u0 u2 u4 Q Y4 u10 I
  else
  kQ B ro a0 a1 u1 u0 u2 u4 Q Y4 false I)) I
 else
 ub B ro Q u1 I
def abP(B:World)(ro:AH)(a0:Option Addr)(a1:Sl)(I:AH)(Q:Sl->AH->Prop):=
 xF B ro a0 I fun u0 I=>
 lfpD (xn B ro a0 a1 u0 Q) ((⟨none,0,0⟩:Sl),0) I
theorem aiK{a0 a1 Q}(h:Sep ro I->abP B ro a0 a1 I Q):abL B ro a0 a1 I Q:=by
 refine zb h func183 ntmps183 fun h=>?_;unfold abP at h;refine zw ?_;refine AW.seqJ (fun fr I=> ∃(u0:Sl),ql [(5,Sl.v u0)] fr/\ub B ro Q u0 I) ?_ ?_
 .rintro fr I ⟨u0,hl,h⟩;refine AW.weaken ?_ hl (HLe.refl _)
  unfold ub at h;exact zr h
 refine zc func84 h ?_;rintro v I ⟨u1,rfl,h⟩;refine zm (qA rfl rfl mv rfl rfl) ?_;refine zw ?_;refine qi.loop (fr':=[(0,.pointer a0),(1,Sl.v a1),(10,Sl.v u1),(11,.int .i64 (u1.len:Int)),(5,Sl.v (⟨none,0,0⟩:Sl)),(12,.int .i64 0)]) ?_ FL
 refine h (fun⟨u2,u3⟩ I=>qi _ _ _ _ _ _ [(0,.pointer a0),(1,Sl.v a1),(10,Sl.v u1),(11,.int .i64 (u1.len:Int)),(5,Sl.v u2),(12,.int .i64 u3)] I) ?_
 rintro⟨u2,u3⟩ I Y4 hY4 h
 show AW _ _ _ _ _ _ _ _
 unfold xn at h;dsimp only at h;refine zw ?_;refine AW.seq ?_;refine zi h (fun h=>?_) fun h=>?_
 rotate_left
 .refine AW.exit ?_;refine zw ?_;refine qT ?_
  refine zw ?_;exact⟨_,FL,h⟩
 refine zw ?_;refine AW.seqJ (fun fr I=> ∃(u4:Sl),ql [(0,.pointer a0),(1,Sl.v a1),(10,Sl.v u1),(11,.int .i64 (u1.len:Int)),(12,.int .i64 u3),(5,Sl.v u4)] fr/\xm B ro a0 a1 u1 u3 Q Y4 u4 I) ?_ ?_
 .rintro fr I ⟨u4,hl,h⟩;refine AW.weaken ?_ hl (HLe.refl _)
  unfold xm at h;refine zw ?_;refine qi.head (fr':=[(0,.pointer a0),(1,Sl.v a1),(10,Sl.v u1),(11,.int .i64 (u1.len:Int)),(5,Sl.v u4),(12,.int .i64 (i64.wrap (u3+1)))]) ?_ FL
  exact hY4 _ _ h
 refine zw ?_;obtain⟨p5,ha,h0,h1,h⟩:=h
 refine zm (zP rfl mv ty9 (ixL rfl ha) rfl h0 h1) ?_;refine zL mj h fun u6 h=>?_;refine zN h fun p7 h=>?_;refine zf nq abx ?_;refine zLp nB h fun u8 h=>?_;refine zl (jB rfl rfl rfl (qj _ h ?_))
 rintro v I ⟨u9,rfl,h⟩;refine zN h fun p10 h=>?_;refine zf mJ wC ?_;refine zf mE ty3 ?_;refine zLp mf h fun u11 h=>?_;refine qE 4 (!(decide (u11=0))) (qp me) h (fun fr I=> ∃(u12:Bool),ql [(0,.pointer a0),(1,Sl.v a1),(5,Sl.v u2),(7,.string u6),(10,Sl.v u1),(11,.int .i64 (u1.len:Int)),(12,.int .i64 u3),(32,.bool u12)] fr/\kQ B ro a0 a1 u2 u1 u3 u6 Q Y4 u12 I) ?_ ?_ ?_
 .intro h e2 hk2;refine zv e2 ?_;refine Lyb rfl rfl rfl rfl e2 (xp rfl func205 rfl rfl rfl (qc.mono h ?_))
  rintro v I ⟨u13,rfl,h⟩;refine zk e2 ?_;exact hk2 _ _ ⟨_,FL,h⟩
 .intro h e2 hk2;refine zv e2 ?_;exact hk2 _ _ ⟨_,FL,h⟩
 rintro fr I ⟨u12,hl,h⟩;unfold kQ at h;refine Lfr hl ?_
 refine zj h (fun h=>?_) fun h=>?_
 rotate_left
 .refine zw ?_;exact⟨_,FL,h⟩
 refine zw ?_;refine zA (zo (vs:=[(0,.string u6)]) (cs:= #[.string u6]) rfl mv ty9 y0 rfl rfl) h fun u14 h=>?_;refine zl (kP (s:=Builtin.append_ #[27,27] 27 #[Sl.v u2,Sl.v (⟨some ⟨u14,0,none⟩,1,1⟩:Sl)]) rfl rfl (fun _=>rfl) (qj _ h ?_))
 rintro v I ⟨u15,rfl,h⟩;refine zw ?_;exact⟨_,FL,h⟩
def abp(B:World)(ro:AH)(a0:Option Addr)(a1:ByteArray)(a2:Int)(I:AH)(Q:Int->AH->Prop):=
 uy B ro a0 a1 a2 I fun u0 u1 I=>
 if¬(u1=0)then
 Q u1 I
 else
 ∃p2,u0=some p2/\
 ∃u3,qa ro I (p2.add 3)=some (.int .i64 u3)/\
 if 0<u3 then
 Q 73 I
 else
 yP B ro a1 I fun u4 u5 I=>
 ∃p6,a0=some p6/\
 ∃u7,qa ro I p6=some (.map u7)/\
 awp prog ro (Instr.lookup 237 (.map u7) (.string u4) false) (fun v I=>
 (∃(u8:Option Addr),v= .pointer u8/\
  ∃p9,u8=some p9/\
  ∃u10,qa ro I (p9.add 3)=some (.int .i64 u10)/\
  ∃p11,u8=some p11/\
  stN (p11.add 3) (fun I=>
  ∃p12,a0=some p12/\
  ∃u13,qa ro I p12=some (.map u13)/\
  awp prog ro (Builtin.delete_ #[237,9] 0 #[.map u13,.string a1]) (fun v I=>v= .tuple #[]/\
   Q 0 I) I) [.int .i64 (i64.wrap (u10 - 1))] 0 I)) I
theorem ahX{a0 a1 a2 Q}(h:Sep ro I->abp B ro a0 a1 a2 I Q):jQ B ro a0 a1 a2 I Q:=by
 refine zb h func184 ntmps184 fun h=>?_;unfold abp at h;refine zc func231 h ?_;rintro v I ⟨u0,u1,rfl,h⟩;refine zw ?_;refine AW.seq ?_;refine zw ?_;refine AW.iff rfl (qp me) h (fun h=>?_) (fun h=>?_)
 .exact zr h
 refine zN h fun p2 h=>?_;refine zf mJ wC ?_;refine zf mE ty3 ?_;refine zL mf h fun u3 h=>?_;refine zi h (fun h=>?_) fun h=>?_
 .exact zr h
 refine zc func179 h ?_;rintro v I ⟨u4,u5,rfl,h⟩;refine zN h fun p6 h=>?_;refine zf nq abx ?_;refine zLp nB h fun u7 h=>?_;refine zl (jB rfl rfl rfl (qj _ h ?_))
 rintro v I ⟨u8,rfl,h⟩;refine zN h fun p9 h=>?_;refine zf mJ wC ?_;refine zf mE ty3 ?_;refine zL mf h fun u10 h=>?_;refine zN h fun p11 h=>?_;refine zf mJ wC ?_;refine zf mE ty3 ?_;refine zs ty3 h fun I h=>?_;refine zN h fun p12 h=>?_;refine zf nq abx ?_;refine zLp nB h fun u13 h=>?_;refine zl (kP (s:=Builtin.delete_ #[237,9] 0 #[.map u13,.string a1]) rfl rfl (fun _=>rfl) (qj _ h ?_))
 rintro v I ⟨rfl,h⟩;exact zr h
def vt(B:World)(ro:AH)(u0:Option Addr)(u1:Int)(Q:Option Addr->Int->AH->Prop)(u2:Bool)(I:AH):=
 if u2=true then
 Q none 72 I
 else
 Q u0 u1 I
def abQ(B:World)(ro:AH)(a0:Option Addr)(a1:ByteArray)(a2:Int)(I:AH)(Q:Option Addr->Int->AH->Prop):=
 if a1=(⟨#[47]⟩:ByteArray)then
 Q none 20 I
 else
 yT B ro a0 a1 I fun u0 u1 I=>
 if(u1=0)/\(¬(a2=(-1)))then
 ∃p2,u0=some p2/\
 ∃u3,qa ro I p2=some (.int .i64 u3)/\
 vt B ro u0 u1 Q (!(decide (a2=u3))) I
 else
 vt B ro u0 u1 Q false I
theorem aiL{a0 a1 a2 Q}(h:Sep ro I->abQ B ro a0 a1 a2 I Q):uy B ro a0 a1 a2 I Q:=by
 refine zb h func231 ntmps231 fun h=>?_;unfold abQ at h;refine zw ?_;refine AW.seq ?_;refine zi h (fun h=>?_) fun h=>?_
 .exact zrr h
 refine zc func79 h ?_;rintro v I ⟨u0,u1,rfl,h⟩;refine zw ?_;refine AW.seq ?_;refine zw ?_;refine wx 3 (decide (u1=0)) [(2,.int .i64 a2),(8,.pointer u0),(9,.int .i64 u1),(23,.bool ((decide (u1=0)) && (!(decide (a2=(-1))))))] ?_ ?_ ?_
 .intro e2 hk2
  refine zv e2 ?_;exact hk2 _ (Fe e2)
 .intro e2 hk2
  refine zv e2 ?_;exact hk2 _ (Fe e2)
 intro fr hl
 refine Lfr hl ?_
 refine zw ?_;refine qE 8 ((decide (u1=0)) && (!(decide (a2=(-1))))) (abJ me (qp me)) h (fun fr I=> ∃(u2:Bool),ql [(8,.pointer u0),(9,.int .i64 u1),(32,.bool u2)] fr/\vt B ro u0 u1 Q u2 I) ?_ ?_ ?_
 .intro h e6 hk6;refine zv e6 ?_;obtain⟨p3,hc,h⟩:=h
  refine qH (kO rfl (by rw[<-hc];try rfl)) rfl rfl rfl rfl e6 ?_
  refine qH (qX rfl mJ rfl wC y0 rfl) rfl rfl rfl rfl e6 ?_
  refine qH (qX rfl mE rfl ty3 y0 rfl) rfl rfl rfl rfl e6 ?_
  obtain⟨u4,hc,h⟩:=h
  refine Lyb rfl rfl rfl rfl e6 (vR rfl mf rfl rfl hc ?_)
  refine zv e6 ?_;exact hk6 _ _ ⟨_,FL,h⟩
 .intro h e6 hk6;refine zv e6 ?_;exact hk6 _ _ ⟨_,FL,h⟩
 rintro fr I ⟨u2,hl,h⟩;unfold vt at h;refine Lfr hl ?_
 refine zj h (fun h=>?_) fun h=>?_
 .exact zrr h
 exact zrr h
def yg(B:World)(ro:AH)(Q:Sl->Int->AH->Prop)(u0:Sl)(I:AH):=
 Q u0 0 I
def vk(B:World)(ro:AH)(a1:ByteArray)(u0:Sl)(u1:Int)(Q:Sl->Int->AH->Prop)(Y6:(Sl×Int)->AH->Prop)(u2:Sl)(I:AH):=
 Y6 (u2,i64.wrap (u1+1)) I
def kf(B:World)(ro:AH)(a1:ByteArray)(u0:Sl)(Q:Sl->Int->AH->Prop):(Sl×Int)->AH->((Sl×Int)->AH->Prop)->Prop:=fun⟨u1,u2⟩ I Y6=>
 if u2<(u0.len:Int)then
 ∃p3,u0.a=some p3/\(0:Int)<=u2/\u2<(u0.len:Int)/\
 ∃u4,qa ro I (p3.add (Int.toNat u2*1))=some (.string u4)/\
 yP B ro u4 I fun u5 u6 I=>
 if(u6=0)/\(u5=a1)then
  agX B ro u4 I fun u7 u8 I=>
  nw ro I (.cells #[.string u7] 9) fun u9 I=>
  awp prog ro (Builtin.append_ #[27,27] 27 #[Sl.v u1,Sl.v (⟨some ⟨u9,0,none⟩,1,1⟩:Sl)]) (fun v I=> ∃(u10:Sl),v=Sl.v u10/\
  vk B ro a1 u0 u2 Q Y6 u10 I) I
 else
 vk B ro a1 u0 u2 Q Y6 u1 I
 else
 yg B ro Q u1 I
def aas(B:World)(ro:AH)(a0:Option Addr)(a1:ByteArray)(I:AH)(Q:Sl->Int->AH->Prop):=
 yT B ro a0 a1 I fun u0 u1 I=>
 if¬(u1=0)then
 Q (⟨none,0,0⟩:Sl) u1 I
 else
 xF B ro a0 I fun u2 I=>
 lfpD (kf B ro a1 u2 Q) ((⟨none,0,0⟩:Sl),0) I
theorem ag2{a0 a1 Q}(h:Sep ro I->aas B ro a0 a1 I Q):aaq B ro a0 a1 I Q:=by
 refine zb h func237 ntmps237 fun h=>?_;unfold aas at h;refine zw ?_;refine AW.seq ?_;refine zc func79 h ?_;rintro v I ⟨u0,u1,rfl,h⟩;refine zw ?_;refine AW.iff rfl (qp me) h (fun h=>?_) (fun h=>?_)
 .exact zrr h
 refine zw ?_;refine AW.seqJ (fun fr I=> ∃(u2:Sl),ql [(8,Sl.v u2)] fr/\yg B ro Q u2 I) ?_ ?_
 .rintro fr I ⟨u2,hl,h⟩;refine AW.weaken ?_ hl (HLe.refl _)
  unfold yg at h;exact zrr h
 refine zc func84 h ?_;rintro v I ⟨u3,rfl,h⟩;refine zm (qA rfl rfl mv rfl rfl) ?_;refine zw ?_;refine qi.loop (fr':=[(1,.string a1),(25,Sl.v u3),(26,.int .i64 (u3.len:Int)),(8,Sl.v (⟨none,0,0⟩:Sl)),(27,.int .i64 0)]) ?_ FL
 refine h (fun⟨u4,u5⟩ I=>qi _ _ _ _ _ _ [(1,.string a1),(25,Sl.v u3),(26,.int .i64 (u3.len:Int)),(8,Sl.v u4),(27,.int .i64 u5)] I) ?_
 rintro⟨u4,u5⟩ I Y6 hY6 h
 show AW _ _ _ _ _ _ _ _
 unfold kf at h;dsimp only at h;refine zw ?_;refine AW.seq ?_;refine zi h (fun h=>?_) fun h=>?_
 rotate_left
 .refine AW.exit ?_;refine zw ?_;refine qT ?_
  refine zw ?_;exact⟨_,FL,h⟩
 refine zw ?_;refine AW.seqJ (fun fr I=> ∃(u6:Sl),ql [(1,.string a1),(25,Sl.v u3),(26,.int .i64 (u3.len:Int)),(27,.int .i64 u5),(8,Sl.v u6)] fr/\vk B ro a1 u3 u5 Q Y6 u6 I) ?_ ?_
 .rintro fr I ⟨u6,hl,h⟩;refine AW.weaken ?_ hl (HLe.refl _)
  unfold vk at h;refine zw ?_;refine qi.head (fr':=[(1,.string a1),(25,Sl.v u3),(26,.int .i64 (u3.len:Int)),(8,Sl.v u6),(27,.int .i64 (i64.wrap (u5+1)))]) ?_ FL
  exact hY6 _ _ h
 refine zw ?_;obtain⟨p7,ha,h0,h1,h⟩:=h
 refine zm (zP rfl mv ty9 (ixL rfl ha) rfl h0 h1) ?_;refine zL mj h fun u8 h=>?_;refine zc func179 h ?_;rintro v I ⟨u9,u10,rfl,h⟩;refine zw ?_;refine wx 4 (decide (u10=0)) [(1,.string a1),(8,Sl.v u4),(10,.string u8),(25,Sl.v u3),(26,.int .i64 (u3.len:Int)),(27,.int .i64 u5),(42,.bool ((decide (u10=0)) && (decide (u9=a1))))] ?_ ?_ ?_
 .intro e2 hk2
  refine zv e2 ?_;exact hk2 _ (Fe e2)
 .intro e2 hk2
  refine zv e2 ?_;exact hk2 _ (Fe e2)
 intro fr hl
 refine Lfr hl ?_
 refine zw ?_;refine AW.iff rfl (abJ me me) h (fun h=>?_) (fun h=>?_)
 rotate_left
 .refine zw ?_;exact⟨_,FL,h⟩
 refine zc func274 h ?_;rintro v I ⟨u11,u12,rfl,h⟩;refine zw ?_;refine zA (zo (vs:=[(0,.string u11)]) (cs:= #[.string u11]) rfl mv ty9 y0 rfl rfl) h fun u13 h=>?_;refine zl (kP (s:=Builtin.append_ #[27,27] 27 #[Sl.v u4,Sl.v (⟨some ⟨u13,0,none⟩,1,1⟩:Sl)]) rfl rfl (fun _=>rfl) (qj _ h ?_))
 rintro v I ⟨u14,rfl,h⟩;refine zw ?_;exact⟨_,FL,h⟩
def jq(B:World)(ro:AH)(a0:Option Addr)(a1:ByteArray)(a2:Sl)(a3:Int)(Q:Int->Int->AH->Prop)(u0:Bool)(I:AH):=
 if u0=true then
 Q 0 20 I
 else
 if 256<(a2.len:Int)then
 Q 0 75 I
 else
 uy B ro a0 a1 a3 I fun u1 u2 I=>
 if¬(u2=0)then
 Q 0 u2 I
 else
 vY B ro a2 I fun u3 I=>
 ∃p4,u1=some p4/\
 stN (p4.add 4) (fun I=>
 ∃p5,u1=some p5/\
 ∃u6,qa ro I p5=some (.int .i64 u6)/\
 ∃p7,u1=some p7/\
 stN p7 (fun I=>
  ∃p8,u1=some p8/\
  ∃u9,qa ro I p8=some (.int .i64 u9)/\
  Q u9 0 I) [.int .i64 (i64.wrap (u6+1))] 0 I) [Sl.v u3] 0 I
def adf(B:World)(ro:AH)(a0:Option Addr)(a1:ByteArray)(a2:Sl)(a3:Int)(I:AH)(Q:Int->Int->AH->Prop):=
 if a1=(⟨#[47]⟩:ByteArray)then
 jq B ro a0 a1 a2 a3 Q true I
 else
 vz B ro a1 I fun u0 I=>
 jq B ro a0 a1 a2 a3 Q (!(decide (u0=0))) I
theorem aj3{a0 a1 a2 a3 Q}(h:Sep ro I->adf B ro a0 a1 a2 a3 I Q):ac9 B ro a0 a1 a2 a3 I Q:=by
 refine zb h func273 ntmps273 fun h=>?_;unfold adf at h;refine zw ?_;refine AW.seq ?_;refine zw ?_;refine qE 4 (decide (a1=(⟨#[47]⟩:ByteArray))) me h (fun fr I=> ∃(u0:Bool),ql [(0,.pointer a0),(1,.string a1),(2,Sl.v a2),(3,.int .i64 a3),(18,.bool u0)] fr/\jq B ro a0 a1 a2 a3 Q u0 I) ?_ ?_ ?_
 .intro h e2 hk2;refine zv e2 ?_;exact hk2 _ _ ⟨_,FL,h⟩
 .intro h e2 hk2;refine zy e2 ?_;refine Lyb rfl rfl rfl rfl e2 (xp rfl func82 rfl rfl rfl (qc.mono h ?_))
  rintro v I ⟨u1,rfl,h⟩;refine zv e2 ?_;exact hk2 _ _ ⟨_,FL,h⟩
 rintro fr I ⟨u0,hl,h⟩;unfold jq at h;refine Lfr hl ?_
 refine zj h (fun h=>?_) fun h=>?_
 .exact zrr h
 refine zw ?_;refine AW.seq ?_;refine zw ?_;refine zm (qA rfl rfl mp rfl rfl) ?_;refine zi h (fun h=>?_) fun h=>?_
 .exact zrr h
 refine zc func231 h ?_;rintro v I ⟨u2,u3,rfl,h⟩;refine zw ?_;refine AW.seq ?_;refine zw ?_;refine AW.iff rfl (qp me) h (fun h=>?_) (fun h=>?_)
 .exact zrr h
 refine zc func80 h ?_;rintro v I ⟨u4,rfl,h⟩;refine zN h fun p5 h=>?_;refine zf mJ wu ?_;refine zs wu h fun I h=>?_;refine zN h fun p6 h=>?_;refine zf mJ wC ?_;refine zf mE ty3 ?_;refine zL mf h fun u7 h=>?_;refine zN h fun p8 h=>?_;refine zf mJ wC ?_;refine zf mE ty3 ?_;refine zs ty3 h fun I h=>?_;refine zN h fun p9 h=>?_
 refine zf mJ wC ?_;refine zf mE ty3 ?_;refine zL mf h fun u10 h=>?_;exact zrr h
end G
namespace Zt
open Go SL G Pa
variable{B:World}{ro I I':AH}{tag tag':Nat->Nat}
structure Nd where
 ver:Int
 ctr:Int
 own:Int
 kids:Int
 data:Str
abbrev St:=List (Str×Nd)
abbrev vI(x:Int):Value:= .int .i64 x
abbrev vU(c:UInt8):Value:= .int .u8 c.toNat
abbrev ptr(b:Nat):Value:= .pointer (some ⟨b,0,none⟩)
def acK(tag:Nat->Nat)(I:AH)(r b:Nat)(n:Nd):Prop:=
 ∃s:Sl,Row tag I (r+64*(b+2)) 168 ⟨some ⟨b,0,none⟩,5,5⟩ [vI n.ver,vI n.ctr,vI n.own,vI n.kids,Sl.v s]/\Row tag I 6 5 s (n.data.map vU)
def kv:St->List Nat->KV
 | (p,_)::st,b::bs=>(p,ptr b)::kv st bs
 | _,_=>[]
structure qU(tag:Nat->Nat)(I:AH)(r T M:Nat)(bs:List Nat)(st:St):Prop where
 keys:(st.map (·.1)).Nodup
 len:bs.length=st.length
 nd:bs.Nodup
 cell:Row tag I r 239 ⟨some ⟨T,0,none⟩,1,1⟩ [.map (some M)]
 map:zT tag I (r+64) M (kv st bs)
 nodes:∀ (i b:Nat) (p:Str×Nd),bs[i]?=some b->st[i]?=some p->acK tag I r b p.2
def qV(tag:Nat->Nat)(I:AH)(r T:Nat)(st:St):Prop:= ∃M bs,qU tag I r T M bs st
theorem acK.keep{R:List Nat}{r b:Nat}{n:Nd}(h:acK tag I r b n)(k:qd R ro tag I tag' I')(h1:r+64*(b+2)∉R:=by simp)(h2:6∉R:=by simp):acK tag' I' r b n:=by
 obtain⟨s,a,c⟩:=h
 exact⟨s,a.keep k h1,c.keep k h2⟩
theorem qU.keepC{c r T M:Nat}{bs:List Nat}{st:St}(h:qU tag I r T M bs st)(k:zU c ro tag I tag' I')(hr:r%64≠c:=by decide)(h6:c≠6:=by decide):qU tag' I' r T M bs st:=
 ⟨h.keys,h.len,h.nd,h.cell.keepC k hr,h.map.keepC k z7,fun i b p hb hp=>by
  obtain⟨s,a,e⟩:=h.nodes i b p hb hp
  exact⟨s,a.keepC k z7,e.keepC k z7⟩⟩
theorem qU.keep{R:List Nat}{r T M:Nat}{bs:List Nat}{st:St}(h:qU tag I r T M bs st)(k:qd R ro tag I tag' I')(hR:∀ x∈R,x%64≠r%64/\x≠6:=by simp):qU tag' I' r T M bs st:=
 ⟨h.keys,h.len,h.nd,h.cell.keep k fun m=>(hR _ m).1 rfl,h.map.keep k fun m=>(hR _ m).1 z7,fun i b p hb hp=>(h.nodes i b p hb hp).keep k (fun m=>(hR _ m).1 z7) fun m=>(hR _ m).2 rfl⟩
theorem qV.keep{R:List Nat}{r T:Nat}{st:St}(h:qV tag I r T st)(k:qd R ro tag I tag' I')(hR:∀ x∈R,x%64≠r%64/\x≠6:=by simp):qV tag' I' r T st:=by
 obtain⟨M,bs,h⟩:=h
 exact⟨M,bs,h.keep k hR⟩
theorem abR:∀ (st:St) (bs:List Nat) (u:Str),bs.length=st.length->
  (st.lookup u=none/\(kv st bs).lookup u=none)\/∃ (i b:Nat) (n:Nd),bs[i]?=some b/\st[i]?=some (u,n)/\st.lookup u=some n/\(kv st bs).lookup u=some (ptr b):=by
 intro st
 induction st with
 | nil=>intro bs u h;exact .inl ⟨rfl,by cases bs<;>rfl⟩
 | cons p st ih=>
  intro bs u h
  cases bs with
  | nil=>simp at h
  | cons b bs=>
   obtain⟨p,n⟩:=p
   simp only[mx,Nat.add_right_cancel_iff]at h
   unfold kv
   rw[mY,mY]
   by_cases c:u=p
   .subst c
    rw[show(u == u)=true by simp]
    exact .inr ⟨0,b,n,rfl,rfl,rfl,rfl⟩
   .rw[show(u == p)=false by simpa using c]
    rcases ih bs u h with h' | ⟨i,b',n',h1,h2,h3,h4⟩
    .exact .inl h'
    .exact .inr ⟨i+1,b',n',j2 h1,j2 h2,h3,h4⟩
def wv(st:St)(u:Str)(f:Nd->Nd):St:=st.map fun p=>if p.1=u then(p.1,f p.2)else p
theorem ahY{st:St}(hk:(st.map (·.1)).Nodup){i:Nat}{u:Str}{n:Nd}(h:st[i]?=some (u,n))(f:Nd->Nd):wv st u f=st.set i (u,f n):=by
 unfold wv
 apply nA
 intro j
 rw[mg,nH]
 have hil:i<st.length:=by
  rcases mL i st.length with h' | h'
  .exact h'
  .rw[mI h']at h;cases h
 by_cases c:i=j
 .subst c;rw[mc rfl,mc hil,h];simp
 .rw[ma c]
  cases e:st[j]? with
  | none=>rfl
  | some p=>
   have hne:p.1≠u:=by
    intro hp
    apply c
    have hjl:j<st.length:=by
     rcases mL j st.length with h' | h'
     .exact h'
     .rw[mI h']at e;cases e
    refine(List.getElem_inj (h₀:=by simpa using hil) (h₁:=by simpa using hjl) hk).1 ?_
    rw[md hil]at h
    rw[md hjl]at e
    simp only[List.getElem_map]
    rw[mA h,mA e,hp]
   simp[hne]
theorem au3:∀ (st:St) (bs:List Nat) (i:Nat) (u:Str) (n n':Nd),st[i]?=some (u,n)->kv (st.set i (u,n')) bs=kv st bs:=by
 intro st
 induction st with
 | nil=>intro bs i u n n' h;cases h
 | cons p st ih=>
  intro bs i u n n' h
  cases bs with
  | nil=>cases i<;>simp[kv]
  | cons b bs=>
   cases i with
   | zero=>cases h;rfl
   | succ i=>simp only[List.set_cons_succ];unfold kv;rw[ih bs i u n n' (j2 h)]
theorem ast{st:St}{i:Nat}{u:Str}{n n':Nd}(h:st[i]?=some (u,n)):(st.set i (u,n')).map (·.1)=st.map (·.1):=by
 rw[List.map_set]
 apply nA
 intro j
 rw[nH,mg]
 by_cases c:i=j
 .subst c;rw[h];simp
  rcases mL i st.length with h' | h'
  .exact h'
  .rw[mI h']at h;cases h
 .rw[ma c]
theorem apd{α:Type}{l:List α}(hn:l.Nodup){i j:Nat}{x:α}(hi:l[i]?=some x)(hj:l[j]?=some x):i=j:=by
 have hil:i<l.length:=by
  rcases mL i l.length with h' | h'
  .exact h'
  .rw[mI h']at hi;cases hi
 have hjl:j<l.length:=by
  rcases mL j l.length with h' | h'
  .exact h'
  .rw[mI h']at hj;cases hj
 rw[md hil]at hi
 rw[md hjl]at hj
 exact(List.getElem_inj hn).1 (by rw[mA hi,mA hj])
theorem qU.write{r T i b M:Nat}{st:St}{bs:List Nat}{u:Str}{n n':Nd}(h:qU tag I r T M bs st)(hr:r<64)(hr6:r≠6)(hb:bs[i]?=some b)(hp:st[i]?=some (u,n))(k:qd [r+64*(b+2)] ro tag I tag' I')(hnew:acK tag' I' r b n'):qU tag' I' r T M bs (st.set i (u,n')):=by
 refine⟨by rw[ast hp];exact h.keys,j2 h.len,h.nd,h.cell.keep k,?_,fun j c p hc hp'=>?_⟩
 .rw[au3 _ _ _ _ _ _ hp];exact h.map.keep k j0
 .rw[nH]at hp'
  by_cases e:i=j
  .subst e
   rw[hb]at hc;cases hc
   rw[mc rfl]at hp'
   split at hp'
   .cases hp';exact hnew
   .cases hp'
  .rw[ma e]at hp'
   refine(h.nodes j c p hc hp').keep k ?_ ?_
   .simp
    intro h'
    have:b=c:=by omega
    subst this
    exact e (apd h.nd hb hc)
   .simp;omega
theorem u126:prog.underlying 237=some (.map 9 164):=y1
theorem u9:prog.underlying 9=some .string:=y1
theorem u30:prog.underlying 24=some (.slice 5):=y1
theorem ahZ:qo prog 164 (.pointer none) 1 8:=qo.of y1
theorem aaS{s:Sl}{l:List Value}{Q:Sl->AH->Prop}(h:SL.wy ro I s l)(hs:SL.Sep ro I)(hl:l.length<=140737488355328)(hv:∀ v∈l,qf v=true)(hQ:∀ s' tag' I',(∀R,qd R ro tag I tag' I')->Row tag' I' 6 5 s' l->Q s' I'):vY B ro s I Q:=by
 refine alP fun _=>?_
 unfold afd
 by_cases h0:s.a=none
 .rw[mc h0]
  rw[h.2.1 h0]at hQ
  exact hQ _ tag I (fun _=>qd.refl hs) (Row.nil 6 5)
 .rw[ma h0]
  refine qh (tag:=tag) 6 hs fun b tag1 I1 st1 r1=>?_
  have h':SL.wy ro I1 s l:=h.step (st1 [])
  refine abg r1 (st1 []).sep h' u30 ty5 rfl hv j0 y0 fun s' tag2 I2 st2 r2=>?_
  exact⟨s',rfl,hQ s' tag2 I2 (fun R=>(st1 R).trans (st2 R (.inl rfl))) r2⟩
def St.new:St:=[([47],⟨0,0,0,0,[]⟩)]
theorem aq3{Q:Option Addr->AH->Prop}(r:Nat)(hr:r<64)(hr6:r≠6)(hQ:∀ T tag' I',zU r ro tag I tag' I'->qV tag' I' r T St.new->Q (some ⟨T,0,none⟩) I'):agW B ro I Q:=by
 refine anM fun hs=>?_
 unfold ag1
 refine aqV (tag:=tag) (r+64) hs fun M tag1 I1 st1 m1=>?_
 refine agA (tag:=tag1) (fun b=>r+64*(b+2)) (st1 []).sep fun b tag2 I2 _ _ st2 r2=>?_
 have m2:=m1.keep (st2 [])
 refine ab8 (k:=[47]) m2 (st2 []).sep u126 u9 fun I3 st3 m3=>?_
 have r3:=r2.keep st3 j0
 refine qh (tag:=tag2) r st3.sep fun T tag4 I4 st4 r4=>?_
 have st:zU r ro tag I tag4 I4:=((st1 []).c z8).trans (((st2 []).c z8).trans ((st3.c j0).trans ((st4 []).c z8)))
 refine hQ T tag4 I4 st ⟨M,[b],by simp[St.new],rfl,z8,r4,m3.keep (st4 []),fun i c p hc hp=>?_⟩
 rcases i with _ | i
 .cases hc;cases hp
  exact⟨⟨none,0,0⟩,r3.keep (st4 []),Row.nil 6 5⟩
 .cases hc
theorem alU{r T M:Nat}{bs:List Nat}{st:St}{p:ByteArray}{Q:Option Addr->Int->AH->Prop}(g:wW ro)(h:qU tag I r T M bs st)(hs:SL.Sep ro I)(hbad:parts (L p)=none->Q none 20 I)
  (hmiss:∀ ps,parts (L p)=some ps->st.lookup (L p)=none->Q none 70 I) (hhit:∀ (ps:List Str) (i b:Nat) (n:Nd),parts (L p)=some ps->bs[i]?=some b->st[i]?=some (L p,n)->st.lookup (L p)=some n->Q (some ⟨b,0,none⟩) 0 I):
  yT B ro (some ⟨T,0,none⟩) p I Q:=by
 refine ai8 fun _=>?_
 unfold acr
 refine pN g ?_
 by_cases h1:Pa.chk (L p)=0
 .rw[ma (j2 h1)]
  obtain⟨ps,hps⟩:=vB.1 h1
  refine⟨_,rfl,_,Row.cell1 h.cell hs,?_⟩
  rw[<-S_L p]
  refine jW h.map hs u126 u9 ahZ ?_
  rcases abR st bs (L p) h.len with⟨a,e⟩ | ⟨i,b,n,a1,a2,a3,e⟩
  .rw[e]
   exact⟨none,rfl,by rw[mc rfl];exact hmiss ps hps a⟩
  .rw[e]
   exact⟨some ⟨b,0,none⟩,rfl,by rw[ma z8];exact hhit ps i b n hps a1 a2 a3⟩
 .rw[mc (j2 h1)]
  have e:parts (L p)=none:=by
   cases h:parts (L p)with
   | none=>rfl
   | some ps=>exact mu (vB.2 ⟨ps,h⟩) h1
  have:Pa.chk (L p)=20:=by unfold Pa.chk;rw[e];try rfl
  rw[this];exact hbad e
theorem amA{r T M:Nat}{bs:List Nat}{st:St}{p:ByteArray}{v:Int}{Q:Option Addr->Int->AH->Prop}(g:wW ro)(h:qU tag I r T M bs st)(hs:SL.Sep ro I)(hbad:(L p=[47]\/parts (L p)=none)->Q none 20 I)
  (hmiss:L p≠[47]->∀ ps,parts (L p)=some ps->st.lookup (L p)=none->Q none 70 I)
  (hver:L p≠[47]->∀ (ps:List Str) (n:Nd),parts (L p)=some ps->st.lookup (L p)=some n->v≠ -1->v≠n.ver->Q none 72 I)
  (hhit:L p≠[47]->∀ (ps:List Str) (i b:Nat) (n:Nd),parts (L p)=some ps->bs[i]?=some b->st[i]?=some (L p,n)->st.lookup (L p)=some n->(v= -1\/v=n.ver)->Q (some ⟨b,0,none⟩) 0 I):
  uy B ro (some ⟨T,0,none⟩) p v I Q:=by
 refine aiL fun _=>?_
 unfold abQ
 by_cases h1:p=⟨#[47]⟩
 .rw[mc h1]
  exact hbad (.inl (by rw[h1];try rfl))
 .rw[ma h1]
  have hne:L p≠[47]:=fun h=>h1 (yI h)
  refine alU g h hs (fun hb=>?_) (fun ps hps hl=>?_) (fun ps i b n hps hb hp hl=>?_)
  .rw[ma z8]
   unfold vt
   rw[ma z8]
   exact hbad (.inr hb)
  .rw[ma z8]
   unfold vt
   rw[ma z8]
   exact hmiss hne ps hps hl
  .by_cases h2:v= -1
   .rw[ma (by simp[h2])]
    unfold vt
    rw[ma z8]
    exact hhit hne ps i b n hps hb hp hl (.inl h2)
   .rw[mc ⟨rfl,h2⟩]
    obtain⟨s,hn,_⟩:=h.nodes i b _ hb hp
    obtain⟨q,hq,hg⟩:=hn.ptr hs z8
    cases hq
    refine⟨_,rfl,n.ver,hg 0 _ rfl,?_⟩
    unfold vt
    by_cases h3:v=n.ver
    .rw[ma (by simp[h3])]
     exact hhit hne ps i b n hps hb hp hl (.inr h3)
    .rw[mc (by simp[h3])]
     exact hver hne ps n hps hl h2 h3
def jg(n:Nd):Nd:={n with ctr:=i64.wrap (n.ctr+1),kids:=i64.wrap (n.kids+1)}
def wo(st:St)(p data:Str)(o:Int)(seq:Bool):St×Str×Int:=
 match qv p with
 | none=>(st,[],20)
 | some u=>
  if 256<data.length then(st,[],75)
  else if o<0\/4611686018427387903<o then(st,[],10)
  else match st.lookup u with
   | none=>(st,[],70)
   | some n=>
    if n.own≠0 then(st,[],74)
    else if 9999999999<n.ctr then(st,[],76)
    else match(if seq then pP p n.ctr else some p)with
     | none=>(st,[],20)
     | some q=>if(st.lookup q).isSome then(st,[],71)else(wv (st++[(q,⟨0,0,o,0,data⟩)]) u jg,q,0)
theorem aq4:∀ (st:St) (bs:List Nat) (q:Str) (n:Nd) (b:Nat),bs.length=st.length->kv (st++[(q,n)]) (bs++[b])=kv st bs++[(q,ptr b)]:=by
 intro st
 induction st with
 | nil=>intro bs q n b h;have:bs=[]:=mO h;subst this;rfl
 | cons p st ih=>
  intro bs q n b h
  cases bs with
  | nil=>simp at h
  | cons c bs=>
   obtain⟨p,m⟩:=p
   simp only[nb]
   unfold kv
   rw[ih bs q n b (j2 h)];try rfl
theorem ape:∀ (st:St) (bs:List Nat) (q:Str) (b:Nat),bs.length=st.length->st.lookup q=none->afT (kv st bs) q (ptr b)=kv st bs++[(q,ptr b)]:=by
 intro st
 induction st with
 | nil=>intro bs q b h _;cases bs<;>rfl
 | cons p st ih=>
  intro bs q b h hl
  cases bs with
  | nil=>simp at h
  | cons c bs=>
   obtain⟨p,m⟩:=p
   rw[mY]at hl
   by_cases e:q=p
   .subst e;simp at hl
   .rw[show(q == p)=false by simpa using e]at hl
    unfold kv afT
    rw[ma e,ih bs q b (j2 h) hl];try rfl
theorem acL{st:St}{q:Str}(h:st.lookup q=none):q∉st.map (·.1):=by
 intro hm
 obtain⟨p,hp,e⟩:=mC.1 hm
 rw[List.lookup_eq_none_iff]at h
 have:=h p hp
 simp at this
 exact this e.symm
theorem qU.add{r T M b:Nat}{bs:List Nat}{st:St}{q:Str}{n:Nd}{tag2:Nat->Nat}{I2:AH}(h:qU tag I r T M bs st)(hr:r<64)(hr6:r≠6)(hq:st.lookup q=none)(hb:I b=none)(k:qd [r+64] ro tag I tag2 I2)(hnew:acK tag2 I2 r b n)(hm:zT tag2 I2 (r+64) M (afT (kv st bs) q (ptr b))):qU tag2 I2 r T M (bs++[b]) (st++[(q,n)]):=by
 have hnb:b∉bs:=fun hm'=>by
  obtain⟨i,hi,e⟩:=mZ hm'
  have hb':bs[i]?=some b:=by rw[md hi,e]
  have hil:i<st.length:=by rw[<-h.len];exact hi
  obtain⟨s,hn,_⟩:=h.nodes i b _ hb' (md hil)
  obtain⟨_,o,ho⟩:=hn.tagOf
  rw[hb]at ho;cases ho
 refine⟨?_,by simp[h.len],?_,h.cell.keep k,?_,fun i c p hc hp=>?_⟩
 .rw[mB,List.nodup_append]
  refine⟨h.keys,z8,?_⟩
  intro x hx y hy
  simp at hy
  intro e
  exact acL hq (by rw[<-hy,<-e];exact hx)
 .rw[List.nodup_append]
  refine⟨h.nd,z8,?_⟩
  intro x hx y hy
  simp at hy
  intro e
  exact hnb (by rw[<-hy,<-e];exact hx)
 .rw[aq4 _ _ _ _ _ h.len,<-ape _ _ _ _ h.len hq];exact hm
 .rcases mL i bs.length with hi | hi
  .rw[mM hi]at hc
   rw[mM (by rw[<-h.len];exact hi)]at hp
   exact(h.nodes i c p hc hp).keep k j0 z8
  .rw[mQ hi]at hc
   rw[mQ (by rw[<-h.len];exact hi),<-h.len]at hp
   cases hd:i - bs.length with
   | zero=>
    rw[hd]at hc hp
    cases hc;cases hp
    exact hnew
   | succ j=>rw[hd]at hc;cases hc