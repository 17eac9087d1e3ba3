import Derived.Test.YtomdigihapdhnaaGreatDoorXE
set_option linter.all false
set_option maxRecDepth 99999
set_option maxHeartbeats 0
open Go.IntKind(i64)
open Go.Proofs.Tryz
namespace Go.Proofs.YtomdigihapdhnaaGreatDoor
namespace SL
open Go
variable{P:Program}{B:World}{ro I I':AH}{tag tag':Nat->Nat}{κ α:Type}[DecidableEq κ]{enc:κ->Value}
abbrev akn(b:Nat):Value:= .pointer (some ⟨b,0,none⟩)
def kvP:List (κ×α)->List Nat->List (κ×Value)
 | (k,_)::m,b::bs=>(k,akn b)::kvP m bs
 | _,_=>[]
structure ud(enc:κ->Value)(At:Nat->κ->α->Prop)(tag:Nat->Nat)(I:AH)(r M:Nat)(bs:List Nat)(m:List (κ×α)):Prop where
 keys:(m.map (·.1)).Nodup
 len:bs.length=m.length
 nd:bs.Nodup
 map:wy enc tag I r M (kvP m bs)
 at':∀ (i b:Nat) (k:κ) (a:α),bs[i]?=some b->m[i]?=some (k,a)->At b k a
theorem aeW:∀ (m:List (κ×α)) (bs:List Nat),bs.length=m.length->(kvP m bs).length=m.length:=by
 intro m
 induction m with
 | nil=>intro bs h;cases bs<;>rfl
 | cons p m ih=>
  intro bs h
  cases bs with
  | nil=>simp at h
  | cons b bs=>obtain⟨k,a⟩:=p;unfold kvP;simp[ih bs (j1 h)]
theorem aqf:∀ (m:List (κ×α)) (bs:List Nat) (k:κ),bs.length=m.length->
  (qS m k=none/\qS (kvP m bs) k=none)\/∃ (i b:Nat) (a:α),bs[i]?=some b/\m[i]?=some (k,a)/\qS m k=some a/\qS (kvP m bs) k=some (akn b):=by
 intro m
 induction m with
 | nil=>intro bs k h;exact .inl ⟨rfl,by cases bs<;>rfl⟩
 | cons p m ih=>
  intro bs k h
  cases bs with
  | nil=>simp at h
  | cons b bs=>
   obtain⟨pk,pa⟩:=p
   unfold kvP qS
   by_cases c:k=pk
   .subst c
    exact .inr ⟨0,b,pa,rfl,rfl,z7,z7⟩
   .rw[mc c,mc c]
    rcases ih bs k (by simpa using h)with h' | ⟨i,b',a,h1,h2,h3,h4⟩
    .exact .inl h'
    .exact .inr ⟨i+1,b',a,j1 h1,j1 h2,h3,h4⟩
theorem yI:∀ {m:List (κ×α)} {k:κ} {a:α},qS m k=some a->(k,a)∈m:=by
 intro m
 induction m with
 | nil=>intro k a h;cases h
 | cons p m ih=>
  intro k a h
  obtain⟨pk,pa⟩:=p
  unfold qS at h
  split at h
  .rename_i e;subst e;cases h;simp
  .exact List.mem_cons_of_mem _ (ih h)
theorem zF:∀ {m:List (κ×α)} {k:κ},qS m k=none↔k∉m.map (·.1):=by
 intro m
 induction m with
 | nil=>intro k;simp[qS]
 | cons p m ih=>
  intro k
  obtain⟨pk,pa⟩:=p
  unfold qS
  by_cases c:k=pk
  .simp[c]
  .rw[mc c,ih];simp[c]
theorem yn:∀ {m:List (κ×α)} {k:κ} {a:α},(m.map (·.1)).Nodup->(k,a)∈m->qS m k=some a:=by
 intro m
 induction m with
 | nil=>intro k a _ h;cases h
 | cons p m ih=>
  intro k a hn h
  obtain⟨pk,pa⟩:=p
  simp only[nx,Lc]at hn
  unfold qS
  rcases mD.1 h with e | h
  .cases e;simp
  .have:k≠pk:=fun e=>hn.1 (by rw[<-e];exact my.2 ⟨_,h,rfl⟩)
   rw[mc this];exact ih hn.2 h
theorem adx:∀ {m:List (κ×α)} {k:κ} (a:α),qS m k=none->abt m k a=m++[(k,a)]:=by
 intro m
 induction m with
 | nil=>intro k a _;rfl
 | cons p m ih=>
  intro k a h
  obtain⟨pk,pa⟩:=p
  unfold qS at h
  unfold abt
  split at h
  .cases h
  .rename_i c
   rw[mc c,ih a h];try rfl
theorem arw:∀ (m:List (κ×α)) (bs:List Nat) (k:κ) (a:α) (b:Nat),bs.length=m.length->kvP (m++[(k,a)]) (bs++[b])=kvP m bs++[(k,akn b)]:=by
 intro m
 induction m with
 | nil=>intro bs k a b h;have:bs=[]:=mG h;subst this;rfl
 | cons p m ih=>
  intro bs k a b h
  cases bs with
  | nil=>simp at h
  | cons c bs=>
   obtain⟨pk,pa⟩:=p
   simp only[nq]
   unfold kvP
   rw[ih bs k a b (j1 h)];try rfl
theorem acB:∀ (m:List (κ×α)) (bs:List Nat),bs.length=m.length->(kvP m bs).map (·.1)=m.map (·.1):=by
 intro m
 induction m with
 | nil=>intro bs h;cases bs<;>rfl
 | cons p m ih=>
  intro bs h
  cases bs with
  | nil=>simp at h
  | cons c bs=>obtain⟨pk,pa⟩:=p;unfold kvP;simp[ih bs (j1 h)]
variable{At At':Nat->κ->α->Prop}{r M:Nat}{bs:List Nat}{m:List (κ×α)}
theorem ud.nil(h:wy enc tag I r M []):ud enc At tag I r M [] ([]:List (κ×α)):=⟨z7,rfl,z7,h,fun i b k a hb=>by cases hb⟩
theorem ud.mono(h:ud enc At tag I r M bs m)(hm:wy enc tag' I' r M (kvP m bs))(ha:∀ (i b:Nat) (k:κ) (a:α),bs[i]?=some b->m[i]?=some (k,a)->At b k a->At' b k a):ud enc At' tag' I' r M bs m:=
 ⟨h.keys,h.len,h.nd,hm,fun i b k a hb hp=>ha i b k a hb hp (h.at' i b k a hb hp)⟩
theorem ud.look(h:ud enc At tag I r M bs m)(k:κ):(qS m k=none/\qS (kvP m bs) k=none)\/∃ (i b:Nat) (a:α),bs[i]?=some b/\m[i]?=some (k,a)/\qS m k=some a/\qS (kvP m bs) k=some (akn b)/\At b k a:=by
 rcases aqf m bs k h.len with h' | ⟨i,b,a,h1,h2,h3,h4⟩
 .exact .inl h'
 .exact .inr ⟨i,b,a,h1,h2,h3,h4,h.at' i b k a h1 h2⟩
theorem ud.add{b:Nat}{k:κ}{a:α}(h:ud enc At tag I r M bs m)(hk:qS m k=none)(hm:wy enc tag' I' r M (abt (kvP m bs) k (akn b)))(hnb:b∉bs)(hn:At' b k a)(ho:∀ (i b':Nat) k' x,bs[i]?=some b'->m[i]?=some (k',x)->At b' k' x->At' b' k' x):ud enc At' tag' I' r M (bs++[b]) (abt m k a):=by
 have hk2:qS (kvP m bs) k=none:=by rw[zF,acB _ _ h.len,<-zF];exact hk
 rw[adx _ hk2]at hm
 rw[adx a hk]
 refine⟨?_,by simp[h.len],?_,by rw[arw _ _ _ _ _ h.len];exact hm,fun i c k' x hc hx=>?_⟩
 .rw[mJ,List.nodup_append]
  refine⟨h.keys,z7,?_⟩
  intro x hx y hy e
  simp at hy
  rw[zF]at hk
  exact hk (by rw[<-hy,<-e];exact hx)
 .rw[List.nodup_append]
  refine⟨h.nd,z7,?_⟩
  intro x hx y hy e
  simp at hy
  exact hnb (by rw[<-hy,<-e];exact hx)
 .rcases mB i bs.length with hi | hi
  .rw[mM hi]at hc
   rw[mM (by rw[<-h.len];exact hi)]at hx
   exact ho i c k' x hc hx (h.at' i c k' x hc hx)
  .rw[mW hi]at hc
   rw[mW (by rw[<-h.len];exact hi),<-h.len]at hx
   cases hd:i - bs.length with
   | zero=>rw[hd]at hc hx;cases hc;cases hx;exact hn
   | succ j=>rw[hd]at hc;cases hc
end SL
namespace Pa
open Go SL G Go.RowKit
variable{B:World}[Zd B]{ro I I':AH}{tag tag':Nat->Nat}
variable{p s:ByteArray}{Q:ByteArray->AH->Prop}{ps:List Str}{k n r:Nat}
theorem an2(s:ByteArray)(i:Nat)(h:i<s.size):s[i]?=some ((L s)[i]'(by rw[wT];exact h)):=by
 conv=>lhs;rw[<-S_L s]
 rw[aq9,mh]
theorem am1(c:UInt8):okc c=true↔(((97<=(c.toNat:Int)/\(c.toNat:Int)<=122)\/(48<=(c.toNat:Int)/\(c.toNat:Int)<=57))\/(c.toNat:Int)=46)\/(c.toNat:Int)=95\/(c.toNat:Int)=45:=by
 simp[okc];omega
theorem aiX{Q:Bool->AH->Prop}(hQ:Q (qV (L s)) I):abn B ro s I Q:=by
 refine alj fun hs=>?_
 unfold afj
 by_cases g:((((s.size:Int)<1)\/(32<(s.size:Int)))\/s=⟨#[46]⟩)\/s=⟨#[46,46]⟩
 .rw[me g]
  have:qV (L s)=false:=by
   rw[Bool.eq_false_iff]
   intro h
   unfold qV at h
   simp only[mv,mV,bne_iff_ne]at h
   obtain⟨⟨⟨⟨h1,h2⟩,h3⟩,h4⟩,_⟩:=h
   rw[wT]at h1 h2
   rcases g with((g | g) | g) | g
   .omega
   .omega
   .rw[g]at h3;exact h3 rfl
   .rw[g]at h4;exact h4 rfl
  rw[this]at hQ;exact hQ
 .rw[mc g]
  have hall:qV (L s)=(L s).all okc:=by
   unfold qV
   have e1:1<=(L s).length:=by rw[wT];omega
   have e2:(L s).length<=32:=by rw[wT];omega
   have e3:L s≠[46]:=fun h=>g (.inl (.inr (uX h)))
   have e4:L s≠[46,46]:=fun h=>g (.inr (uX h))
   simp[e1,e2,e3,e4]
  rw[hall]at hQ
  have h32:s.size<=32:=by omega
  suffices∀m j,j+m=s.size->(∀i,i<j->∀ c,(L s)[i]?=some c->okc c=true)->lfpD (pI B ro s Q) (j:Int) I from
   this s.size 0 (mp _) (fun i h=>mC h (Nat.not_lt_zero _))
  intro m
  induction m with
  | zero=>
   intro j hj hk
   refine lfpD.intro ?_
   unfold pI
   rw[mc z6]
   have:(L s).all okc=true:=by
    rw[mz]
    intro c hc
    obtain⟨i,hi,e⟩:=nv hc
    exact hk i (by rw[wT]at hi;omega) c (by rw[mh hi,e])
   rw[this]at hQ;exact hQ
  | succ m ih=>
   intro j hj hk
   have hjl:j<(L s).length:=by rw[wT];omega
   refine lfpD.intro ?_
   unfold pI
   rw[me z6]
   refine⟨(L s)[j],z6,by rw[mr];exact an2 s j z6,?_⟩
   have key:∀ x:Bool,(((x=true\/((L s)[j].toNat:Int)=46)\/((L s)[j].toNat:Int)=95)\/((L s)[j].toNat:Int)=45↔okc (L s)[j]=true)->pH B ro s j (L s)[j] Q (lfpD (pI B ro s Q)) x I:=by
    intro x hx
    unfold pH
    by_cases c:okc (L s)[j]=true
    .rw[mc (fun h=>h (hx.2 c)),inc j z6]
     refine ih (j+1) z6 fun i hi c' hc'=>?_
     rcases mB i j with h | h
     .exact hk i h c' hc'
     .have:i=j:=by omega
      subst this
      rw[mh hjl]at hc'
      cases hc';exact c
    .rw[me (fun h=>c (hx.1 h))]
     have:(L s).all okc=false:=by
      rw[Bool.eq_false_iff,ne_eq,mz]
      exact fun h=>c (h _ (mO hjl))
     rw[this]at hQ;exact hQ
   by_cases b1:(97:Int)<=((L s)[j].toNat:Int)/\((L s)[j].toNat:Int)<=122
   .rw[me b1]
    exact key _ (by rw[am1];simp;omega)
   .rw[mc b1]
    exact key _ (by rw[am1];simp;omega)
theorem t25:prog.underlying 27=some (.slice 9):=y0
theorem akR{Q:Sl->Bool->AH->Prop}(r:Nat)(hnone:parts (L s)=none->∀ sl I',Q sl false I')
  (hsome:∀ ps,parts (L s)=some ps->∀ sl tag' I',qd [r] ro tag I tag' I'->Row tag' I' r 9 sl (ps.map vS)->Q sl true I'):vO B ro s I Q:=by
 refine aki fun hs=>?_
 unfold aer
 by_cases h1:s=⟨#[47]⟩
 .rw[me h1]
  refine hsome [] ?_ _ tag I (qd.refl hs) (Row.nil r 9)
  subst h1;rfl
 .have hne:L s≠[47]:=fun h=>h1 (uX h)
  rw[mc h1]
  by_cases h2:((s.size:Int)<1)\/128<(s.size:Int)
  .rw[me h2]
   unfold yN
   rw[me rfl]
   refine hnone ?_ _ _
   unfold parts;rw[mc hne,mc]
   rintro⟨a,b,_⟩
   rw[wT]at a
   have:(L s).length=0:=by rw[wT];omega
   rw[mG this]at b
   cases b
  .rw[mc h2]
   have h128:s.size<=128:=by omega
   have hpos:0<(L s).length:=by rw[wT];omega
   refine⟨(L s)[0],z6,an2 s 0 z6,?_⟩
   unfold yN
   by_cases h3:(L s)[0]=47
   .rw[mc (by rw[h3];decide)]
    obtain⟨t,ht⟩:∃ t,L s=47::t:=by
     cases h:L s with
     | nil=>rw[h]at hpos;cases hpos
     | cons c t=>simp only[h,List.getElem_cons_zero]at h3;rw[h3];exact⟨t,rfl⟩
    have hsz:s.size=t.length+1:=by rw[<-wT,ht];try rfl
    have hdrop:(L s).drop 1=t:=by rw[ht];try rfl
    have hno:∀ x∈cut t,¬qV x=true->parts (L s)=none:=fun x hx hx'=>by
     unfold parts
     rw[mc hne,hdrop,mc]
     intro h;exact hx' (mz.1 h.2.2.2 x hx)
    have step:∀ (i fr:Nat) (done:List Str) sl tag' I' Y,i<=s.size->fr<=i->done.length<=i->((L s).take i).drop fr∈cut t->Row tag' I' r 9 sl (done.map vS)->qd [r] ro tag I tag' I'->
      (qV (((L s).take i).drop fr)=true->∀ s2 tag2 I2,Row tag2 I2 r 9 s2 ((done++[((L s).take i).drop fr]).map vS)->qd [r] ro tag I tag2 I2->Y (s2,((i+1:Nat):Int),((i+1:Nat):Int)) I2)->
      xB B ro s sl (fr:Int) (i:Int) Q Y true I':=by
     intro i fr done sl tag' I' Y hi hf hdl hmem hr st hY
     unfold xB
     rw[me rfl]
     have hcut:cutOk (some (fr:Int)) (some (i:Int)) s.size s.size:=⟨⟨z6,z6⟩,⟨z6,by simp[cutHi];omega⟩⟩
     refine⟨hcut,?_⟩
     rw[mr,mr,aq8]
     refine aiX ?_
     rw[L_S]
     by_cases hn:qV (((L s).take i).drop fr)=true
     .rw[mc (j1 hn)]
      refine⟨hcut,?_⟩
      refine qr (tag:=tag') (r+1) st.sep fun u tag2 I2 st2 r2=>?_
      have hr2:=hr.keep (st2 [])
      refine adO hr2 (st2 []).sep t25 ty9 rfl rfl (Row.cell1 r2 (st2 []).sep) rfl (by rw[ml];omega) z8 fun s' tag3 I3 st3 r3=>?_
      refine⟨s',rfl,?_⟩
      unfold yM
      rw[inc i z6]
      exact hY hn s' tag3 I3 (by rw[mJ];exact r3) (st.trans ((st2 _).trans st3))
     .rw[me (j1 hn)]
      exact hnone (hno _ hmem hn) _ _
    suffices∀m i fr done sl tag' I',i+m=s.size->fr<=i->47∉((L s).take i).drop fr->cut t=done++cut ((L s).drop fr)->(∀x∈done,qV x=true)->done.length<=i->Row tag' I' r 9 sl (done.map vS)->qd [r] ro tag I tag' I'->lfpD (kV B ro s Q) (sl,(fr:Int),(i:Int)) I' from
     this t.length 1 1 [] ⟨none,0,0⟩ tag I z6 (mH _) (by rw[List.drop_eq_nil_of_le y6];simp) (by rw[ht];try rfl) z7 z7 (Row.nil r 9) (qd.refl hs)
    intro m
    induction m with
    | zero=>
     intro i fr done sl tag' I' hi hf2 hw hc hd hdl hr st
     refine lfpD.intro ?_
     unfold kV
     simp only
     rw[me z6,me z6]
     have hti:(L s).take i=L s:=mT (by rw[wT];omega)
     rw[hti]at hw
     rw[aiT _ hw]at hc
     refine step i fr done sl tag' I' (lfpD (kV B ro s Q)) z6 hf2 hdl (by rw[hti,hc];simp) hr st fun hn s2 tag2 I2 r2 st2=>?_
     rw[hti]at hn r2
     refine lfpD.intro ?_
     unfold kV
     simp only
     rw[mc z6]
     unfold abN
     rw[<-hc]at r2
     have hln:s2.len=(cut t).length:=by rw[r2.len,ml]
     by_cases h8:8<(s2.len:Int)
     .rw[me h8]
      refine hnone ?_ _ _
      unfold parts
      rw[mc hne,hdrop,mc]
      intro h;have:=h.2.2.1;omega
     .rw[mc h8]
      refine hsome (cut t) ?_ s2 tag2 I2 st2 r2
      unfold parts
      rw[mc hne,hdrop,me]
      refine⟨by rw[wT];omega,by rw[ht];try rfl,z6,?_⟩
      rw[mz,hc]
      intro x hx
      rcases mt.1 hx with h | h
      .exact hd x h
      .rw[mK]at h;rw[h];exact hn
    | succ m ih=>
     intro i fr done sl tag' I' hi hf2 hw hc hd hdl hr st
     have hil:i<(L s).length:=by rw[wT];omega
     refine lfpD.intro ?_
     unfold kV
     simp only
     rw[me z6,mc z6]
     refine⟨(L s)[i],z6,by rw[mr];exact an2 s i z6,?_⟩
     have hsplit:(L s).drop fr=((L s).take i).drop fr++(L s)[i]::(L s).drop (i+1):=by
      rw[<-List.drop_eq_getElem_cons hil]
      conv=>lhs;rw[<-List.take_append_drop i (L s)]
      rw[List.drop_append_of_le_length y6]
     by_cases h47:(L s)[i]=47
     .rw[h47]at hsplit⊢
      rw[hsplit,akj _ _ hw]at hc
      rw[show(decide (((47:UInt8).toNat:Int)=47))=true from by decide]
      refine step i fr done sl tag' I' (lfpD (kV B ro s Q)) z6 hf2 hdl (by rw[hc];simp) hr st fun hn s2 tag2 I2 r2 st2=>?_
      refine ih (i+1) (i+1) _ s2 tag2 I2 z6 (mH _) (by rw[List.drop_eq_nil_of_le y6];simp) (by rw[hc];simp) (fun x hx=>?_) y6 r2 st2
      rcases mt.1 hx with h | h
      .exact hd x h
      .rw[mK]at h;rw[h];exact hn
     .rw[show(decide ((((L s)[i]).toNat:Int)=47))=false from by
       simp;intro h;exact h47 (UInt8.toNat_inj.1 (by show(L s)[i].toNat=47;omega))]
      unfold xB
      rw[mc z8]
      unfold yM
      rw[inc i z6]
      refine ih (i+1) fr done sl tag' I' z6 z6 ?_ hc hd z6 hr st
      rw[List.take_succ_eq_append_getElem hil,List.drop_append_of_le_length y6]
      intro h
      rcases mt.1 h with h | h
      .exact hw h
      .rw[mK]at h;exact h47 h.symm
   .rw[me (by simp;intro h;exact h3 (UInt8.toNat_inj.1 (by show(L s)[0].toNat=47;omega)))]
    refine hnone ?_ _ _
    unfold parts
    rw[mc hne,mc]
    intro h
    apply h3
    have:=h.2.1
    rw[List.head?_eq_getElem?,mh hpos]at this
    exact mQ this
theorem amx(ps:List Str):∀ j,j<=ps.length->((ps.take j).flatMap (fun x=>47::x)).length<=(ps.flatMap (fun x=>47::x)).length:=by
 intro j hj
 conv=>rhs;rw[<-List.take_append_drop j ps]
 rw[List.flatMap_append,mU];omega
theorem aqg{s:Sl}(h:Row tag I r 9 s (ps.map vS))(hs:SL.Sep ro I)(hn:ps.length<4611686018427387904)(hl:(mk ps).length<4611686018427387904)(hQ:Q (S (mk ps)) I):afa B ro s I Q:=by
 refine alk fun _=>?_
 unfold afk
 have hln:s.len=ps.length:=by rw[h.len,ml]
 by_cases h0:ps=[]
 .subst h0
  rw[me (by rw[hln];try rfl)]
  exact hQ
 .have hpos:0<ps.length:=nr.2 h0
  rw[mc z6]
  unfold mk at hl hQ
  rw[mc h0]at hl hQ
  suffices∀m j,j+m=ps.length->lfpD (aaD B ro s Q) (S ((ps.take j).flatMap (fun x=>47::x)),(j:Int)) I from this ps.length 0 (mp _)
  intro m
  induction m with
  | zero=>
   intro j hj
   refine lfpD.intro ?_
   unfold aaD
   simp only
   rw[mc z6,mT z6]
   exact hQ
  | succ m ih=>
   intro j hj
   have hjl:j<ps.length:=by omega
   obtain⟨p,hp,_,hg⟩:=Row.sget h hs hjl
   have h1:=amx ps (j+1) z6
   rw[List.take_succ_eq_append_getElem hjl,List.flatMap_append,mU]at h1
   simp only[na,List.flatMap_nil,nN,mA]at h1
   refine lfpD.intro ?_
   unfold aaD
   simp only
   rw[me z6]
   refine⟨p,hp,z6,z6,_,hg j hjl,by show 1+(S ps[j]).size<=_;simp only[ae4];omega,?_,?_⟩
   .show _+((S [47])++S ps[j]).size<=_
    rw[uY];simp only[ae4,mU,mA,mZ];omega
   .rw[inc j z6]
    show lfpD _ (S ((ps.take j).flatMap (fun x=>47::x))++(S [47]++S ps[j]),_) I
    rw[uY,uY]
    have:=ih (j+1) z6
    rw[List.take_succ_eq_append_getElem hjl,List.flatMap_append,na,List.flatMap_nil,nN]at this
    exact this
theorem ajy(h:ahM ps):ps.length<4611686018427387904/\(mk ps).length<4611686018427387904:=by
 have:=h.n;have:=h.len;omega
theorem aoL(a:Option Addr)(c s:Nat):wH a 0 c s=a:=by
 unfold wH;split
 .rfl
 .cases a<;>simp
theorem Row.cap{e:TypeId}{s:Sl}{l:List Value}(h:Row tag I r e s l):s.len<=s.cap:=by
 rcases h with⟨e,_⟩ | ⟨_,_,_,_,_,_,_,h,_⟩
 .rw[e];exact mH _
 .exact h
theorem ajz{Q:ByteArray->Bool->AH->Prop}(hnone:ws (L s)=none->Q (⟨#[]⟩:ByteArray) false I)(hsome:∀ u,ws (L s)=some u->Q (S u) true I):uA B ro s I Q:=by
 refine qc.quiet (R:=fun v=> ∃r0 r1,v= .tuple #[.string r0,.bool r1]/\((ws (L s)=none/\r0=(⟨#[]⟩:ByteArray)/\r1=false)\/∃ u,ws (L s)=some u/\r0=S u/\r1=true)) ?_ ?_
 .have:uA B ro s (fun _=>none) fun r0 r1 _=>(ws (L s)=none/\r0=(⟨#[]⟩:ByteArray)/\r1=false)\/∃ u,ws (L s)=some u/\r0=S u/\r1=true:=by
   refine ajv fun hs=>?_
   unfold adv
   refine akR (tag:=fun _=>0) 1 (fun h sl I'=>?_) (fun ps hps sl tag' I' st hr=>?_)
   .rw[me z7]
    exact .inl ⟨by unfold ws;rw[h],rfl,rfl⟩
   .have hln:sl.len=ps.length:=by rw[hr.len,ml]
    by_cases h0:ps=[]
    .rw[me (by right;rw[hln,h0];try rfl)]
     exact .inl ⟨by unfold ws;rw[hps,h0];try rfl,rfl,rfl⟩
    .have hpos:0<ps.length:=nr.2 h0
     rw[mc y6]
     obtain⟨_,hg⟩:=xZ.1 hps
     have h8:=hg.n
     rw[SL.qM z6 z6]
     refine⟨⟨⟨z6,by have:=Row.cap hr;omega⟩,trivial⟩,?_⟩
     have e:Int.toNat ((sl.len:Int) - 1) - 0=ps.length - 1:=by omega
     rw[e,aoL]
     have ht:=hr.take (n:=ps.length - 1) z7
     rw[<-List.map_take,<-List.dropLast_eq_take]at ht
     have hg':=hg.up
     refine aqg ht st.sep (ajy hg').1 (ajy hg').2 ?_
     exact .inr ⟨_,by unfold ws;rw[hps];simp[h0],rfl,rfl⟩
  exact qc.mono this fun v τ ⟨r0,r1,hv,h⟩=>⟨r0,r1,hv,h⟩
 .rintro v ⟨r0,r1,hv,⟨h,rfl,rfl⟩ | ⟨u,h,rfl,rfl⟩⟩
  .exact⟨_,_,hv,hnone h⟩
  .exact⟨_,_,hv,hsome u h⟩
def afn:Nat->Nat->Str
 | 0,_=>[]
 | k+1,n=>afn k (n / 10)++[UInt8.ofNat (48+n%10)]
theorem aoM(k:Nat):afn k 0=List.replicate k 48:=by
 induction k with
 | zero=>rfl
 | succ k ih=>rw[afn,Nat.zero_div,ih,List.replicate_succ'];try rfl
theorem aqh:∀ (k n:Nat),n<10 ^ (k+1)->(Lib.decDigits n).length<=k+1/\List.replicate (k+1 - (Lib.decDigits n).length) 48++Lib.decDigits n=afn (k+1) n:=by
 intro k
 induction k with
 | zero=>
  intro n h
  have h:n<10:=by simpa using h
  rw[Lib.decDigits,dif_pos h]
  refine⟨z7,?_⟩
  simp[afn,Lf h]
 | succ k ih=>
  intro n h
  by_cases h10:n<10
  .rw[Lib.decDigits,dif_pos h10]
   refine⟨z7,?_⟩
   rw[afn,Nat.div_eq_of_lt h10,aoM,Lf h10];simp
  .rw[Lib.decDigits,dif_neg h10]
   obtain⟨h1,h2⟩:=ih (n / 10) (by rw[Nat.div_lt_iff_lt_mul z6];rw[Nat.pow_succ]at h;exact h)
   refine⟨y6,?_⟩
   rw[afn,<-h2]
   simp only[mU,mA,mZ,<-mI]
   rw[show k+1+1 - ((Lib.decDigits (n / 10)).length+(0+1))=k+1 - (Lib.decDigits (n / 10)).length by omega]
theorem aqi(k n:Nat):(afn k n).length=k:=by
 induction k generalizing n with
 | zero=>rfl
 | succ k ih=>rw[afn,mU,ih];try rfl
theorem amy(c:UInt8)(k:Nat):Lib.repeatL [c] k=List.replicate k c:=by
 induction k with
 | zero=>rfl
 | succ k ih=>rw[Lib.repeatL,ih];try rfl
theorem arx(g:xC ro)(hn:n<9223372036854775808)(hQ:Q (S (Lib.decDigits n)) I):agi B ro (n:Int) I Q:=by
 refine qc.of_calls fun w hw hsep=>?_
 refine(Tryz.strconv_Itoa (n:Int) z6 z6 w (g.tab w (amW hw))).mono ?_
 rintro e w' ⟨he,k,os,rfl⟩
 have hb:Below w.heap.size w (Go.Sort.grow (w.drewN k) os):=⟨rfl,rfl,rfl,by simp[Go.Sort.grow,World.drewN],fun b hb=>by
  simp only[Go.Sort.grow,World.drewN]
  rw[Array.getElem?_append_left hb]⟩
 refine⟨_,fun _=>none,he,hb,agF.none _ _,S (Lib.decDigits n),?_,?_⟩
 .rw[Lib.itoa_nonneg];try rfl
 .rw[kn];exact hQ
theorem aoN(hk:k<=100)(hQ:Q (S (List.replicate k 48)) I):afb B ro (⟨#[48]⟩:ByteArray) (k:Int) I Q:=by
 refine qc.of_calls fun w hw hsep=>?_
 refine(Tryz.strings_Repeat (⟨#[48]⟩:ByteArray) k w z6 (by show 1*k<=_;omega)).mono ?_
 rintro e w' ⟨he,hb⟩
 refine⟨_,fun _=>none,he,hb,agF.none _ _,S (List.replicate k 48),?_,?_⟩
 .rw[show(⟨#[48]⟩:ByteArray).data.toList=[48]from rfl,amy];try rfl
 .rw[kn];exact hQ
def ac7(n:Int):Str:=afn 10 n.toNat
def ac8(l:Str)(n:Int):Option Str:=
 match parts l with
 | some ps=>if ps=[]\/n<0\/9999999999<n then none else if(parts (l++ac7 n)).isSome then some (l++ac7 n)else none
 | none=>none
theorem aoO{n:Int}{Q:ByteArray->Int->AH->Prop}(g:xC ro)(hnone:ac8 (L p) n=none->Q (⟨#[]⟩:ByteArray) 20 I)(hsome:∀ u,ac8 (L p) n=some u->Q (S u) 0 I):aem B ro p n I Q:=by
 refine akh fun hs=>?_
 unfold aep
 by_cases h1:(p=⟨#[47]⟩\/n<0)\/9999999999<n
 .rw[me h1]
  unfold yL
  rw[me rfl]
  refine hnone ?_
  unfold ac8
  cases h:parts (L p)with
  | none=>rfl
  | some ps=>
   obtain⟨hl,hg⟩:=xZ.1 h
   refine me ?_
   rcases h1 with(h1 | h1) | h1
   .exact .inl ((aoK hg).1 (by rw[<-hl,h1];try rfl))
   .exact .inr (.inl h1)
   .exact .inr (.inr h1)
 .rw[mc h1]
  have hp1:p≠⟨#[47]⟩:=fun h=>h1 (.inl (.inl h))
  obtain⟨m,rfl⟩:∃ m:Nat,n=m:=⟨n.toNat,z6⟩
  refine afl g ?_
  unfold yL
  by_cases h2:chk (L p)=0
  .rw[mc (j1 h2)]
   obtain⟨ps,hps⟩:=uc.1 h2
   obtain⟨hl,hg⟩:=xZ.1 hps
   have hn:ps≠[]:=fun e=>hp1 (uX (by rw[hl,e];try rfl))
   refine arx g z6 ?_
   obtain⟨hd1,hd2⟩:=aqh 9 m (by show m<10000000000;omega)
   have e1:i64.wrap (10 - ((S (Lib.decDigits m)).size:Int))=((9+1 - (Lib.decDigits m).length:Nat):Int):=by
    rw[ae4,SL.qM z6 z6];omega
   rw[e1]
   refine aoN z6 ?_
   have hsz:p.size=(mk ps).length:=by rw[<-wT,hl]
   have h128:=hg.len
   rw[uY,hd2]
   refine⟨by simp only[ae4,List.length_replicate];omega,by rw[ae4,aqi];omega,?_⟩
   have e2:p++S (afn (9+1) m)=S (L p++ac7 m):=by
    conv=>lhs;rw[<-S_L p]
    rw[uY];try rfl
   rw[e2]
   refine afl g ?_
   rw[L_S]
   have hsuf:ac8 (L p) (m:Int)=if(parts (L p++ac7 m)).isSome then some (L p++ac7 m)else none:=by
    unfold ac8;rw[hps];simp only;rw[mc fun h=>h.elim hn z6]
   by_cases h3:chk (L p++ac7 m)=0
   .rw[mc (j1 h3)]
    obtain⟨qs,hqs⟩:=uc.1 h3
    refine hsome _ ?_
    rw[hsuf,hqs];try rfl
   .rw[me (j1 h3)]
    have e3:parts (L p++ac7 m)=none:=by
     cases h:parts (L p++ac7 m)with
     | none=>rfl
     | some qs=>exact mC (uc.2 ⟨qs,h⟩) h3
    have:chk (L p++ac7 m)=20:=by unfold chk;rw[e3];try rfl
    rw[this]
    refine hnone ?_
    rw[hsuf,e3];try rfl
  .rw[me (j1 h2)]
   refine hnone ?_
   unfold ac8
   cases h:parts (L p)with
   | none=>rfl
   | some ps=>exact mC (uc.2 ⟨ps,h⟩) h2
end Pa
namespace G
open Go SL
variable{B:World}{ro I:AH}
def aae(B:World)(ro:AH)(a0:Option Addr)(a1:ByteArray)(I:AH)(Q:Sl->Int->Int->Int->Int->Int->AH->Prop):=
 nw ro I (.cells #[.int .i64 0,.int .i64 0,.int .i64 0,.int .i64 0] 26) fun u0 I=>
 abU B ro a0 a1 I fun u1 u2 I=>
 if¬(u2=0)then
 stN ⟨u0,0,none⟩ (fun I=>
  ∃u3 u4 u5 u6,qB ro I ⟨u0,0,none⟩ 0 [.int .i64 u3,.int .i64 u4,.int .i64 u5,.int .i64 u6]/\
  Q (⟨none,0,0⟩:Sl) u3 u4 u5 u6 u2 I) [.int .i64 0,.int .i64 0,.int .i64 0,.int .i64 0] 0 I
 else
 uS I fun ψ I=>
 ∃p7,u1=some p7/\
 ∃p8,u1=some p8/\
 ∃u9 u10 u11 u12,qB (join ro ψ) (fun _=>none) p8 0 [.int .i64 u9,.int .i64 u10,.int .i64 u11,.int .i64 u12]/\
 ∃u13,qb (join ro ψ) I (p7.add 4)=some (Sl.v u13)/\
 xY B (join ro ψ) u13 I fun u14 I=>
 stN ⟨u0,0,none⟩ (fun I=>
  (qI ψ I->(fun I=>
  ∃u15 u16 u17 u18,qB ro I ⟨u0,0,none⟩ 0 [.int .i64 u15,.int .i64 u16,.int .i64 u17,.int .i64 u18]/\
  Q u14 u15 u16 u17 u18 0 I) (join ψ I))) [.int .i64 u9,.int .i64 u10,.int .i64 u11,.int .i64 u12] 0 I
theorem aeG{a0 a1 Q}(h:Sep ro I->aae B ro a0 a1 I Q):jk B ro a0 a1 I Q:=by
 refine zb h func25 ntmps25 fun h=>?_;unfold aae at h;refine zw ?_;refine zA (vw rfl vb) h fun u0 h=>?_;refine zc func79 h ?_;rintro v I ⟨u1,u2,rfl,h⟩;refine zw ?_;refine AW.seq ?_;refine zw ?_;refine AW.iff rfl (qp mg) h (fun h=>?_) (fun h=>?_)
 .refine zw ?_;refine zm (wD (vs:=[]) (cs:= #[.int .i64 0,.int .i64 0,.int .i64 0,.int .i64 0]) rfl ni vb asf rfl rfl) ?_;refine zsp vb h fun I h=>?_;obtain⟨u3,u4,u5,u6,hc1,h⟩:=h
  exact bRM results25 (aa4 (anS rfl) (aa4 (af0 rfl ni rfl vb hc1) (aa4 (anS rfl) afZ))) ⟨_,_,_,_,_,_,rfl,h⟩
 refine zw ?_;refine AW.seq ?_;refine AW.drawnL (fun i=>([0,0,0,3,2,0,0,0,0,0,2,0]:List Nat).getD i 2) [] [0,1,2,5,6,7,8,3,4,9,10,11] mixed h j0 ?_
 clear h
 intro ψ I h
 refine zM h fun p7 h=>?_;refine zg mR wq ?_;refine zM h fun p8 h=>?_;refine zg mR vb ?_;obtain⟨u9,u10,u11,u12,hc,h⟩:=h
 refine Dp rfl rfl rfl rfl (anO rfl ni rfl vb rfl hc) ?_
 refine zR mo h fun u13 h=>?_;refine zG func80 h ?_;rintro v I ⟨u14,rfl,h⟩;refine zw ?_;refine Dg rfl rfl rfl rfl (aeh rfl vb rfl rfl rfl rfl (pZ h fun I h=>?_))
 refine zw ?_;refine⟨_,zz.refl _,fun hdj=>?_⟩
 replace h:=h hdj
 refine zw ?_;obtain⟨u15,u16,u17,u18,hc1,h⟩:=h
 exact bRM results25 (aa4 (anS rfl) (aa4 (af0 rfl ni rfl vb hc1) (aa4 (anS rfl) afZ))) ⟨_,_,_,_,_,_,rfl,h⟩
def af8(B:World)(ro I:AH)(Q:Option Addr->AH->Prop):Prop:=
 nw ro I (.map #[] 0) fun u0 I=>
 nw ro I (.cells #[.int .i64 0,.int .i64 0,.int .i64 0,.int .i64 0,Sl.v (⟨none,0,0⟩:Sl)] 168) fun u1 I=>
 awp prog ro (Instr.mapUpdate 237 (.map (some u0)) (.string (⟨#[47]⟩:ByteArray)) (.pointer (some ⟨u1,0,none⟩))) (fun _ I=>
 nw ro I (.cells #[.map (some u0)] 239) fun u2 I=>
 Q (some ⟨u2,0,none⟩) I) I
theorem alX{Q}(h:Sep ro I->af8 B ro I Q):af4 B ro I Q:=by
 refine zb h func66 ntmps66 fun h=>?_;unfold af8 at h;refine zw ?_;refine zA (ad3 rfl) h fun u0 h=>?_;refine zm (wD (vs:=[]) (cs:= #[.int .i64 0,.int .i64 0,.int .i64 0,.int .i64 0,Sl.v (⟨none,0,0⟩:Sl)]) rfl mR anU anW rfl rfl) ?_;refine zA (wY rfl rfl) h fun u1 h=>?_;refine zl (aie (.inr rfl) rfl rfl rfl (qj _ h ?_))
 rintro _ I h
 refine zw ?_;refine zm (wD (vs:=[(0,.map (some u0))]) (cs:= #[.map (some u0)]) rfl nO arb arh rfl rfl) ?_;refine zA (wY rfl rfl) h fun u2 h=>?_;exact zr h
def aa7(B:World)(ro:AH)(u0:Nat)(Q:Option Addr->Int->AH->Prop)(I:AH):=
 Q (some ⟨u0,0,none⟩) 0 I
def aa8(B:World)(ro:AH)(p0:Addr)(u1:Nat)(Q:Option Addr->Int->AH->Prop):(Unit)->AH->((Unit)->AH->Prop)->Prop:=fun _ I Y7=>
 awp prog ro (Instr.next (.pointer (some p0)) false 0) (fun v I=>
 (v= .tuple #[.bool false]/\
  aa7 B ro u1 Q I)\/
 (∃(u2:Value) (u3:Value),v= .tuple #[.bool true,u2,u3]/\
  awp prog ro (Instr.entry (.pointer (some p0))) (fun v I=>
  (∃(u4:Value) (u5:Option Addr),v= .tuple #[u4,.pointer u5]/\
   ∃p6,u5=some p6/\
   ∃p7,u5=some p7/\
   ∃u8,qb ro I (p6.add 1)=some (.int .i64 u8)/\
   ∃u9,qb ro I (p7.add 3)=some (.int .i64 u9)/\
   if u8<u9 then
   Q none 13 I
   else
   Y7 () I)) I)) I
def pN(B:World)(ro:AH)(u0:Nat)(Q:Option Addr->Int->AH->Prop)(I:AH):=
 ∃u1,qb ro I ⟨u0,0,none⟩=some (.map u1)/\
 awp prog ro (Instr.range 237 (.map u1)) (fun v I=>
 (∃(p2:Addr),v= .pointer (some p2)/\
  lfpD (aa8 B ro p2 u0 Q) () I)) I
def kJ(B:World)(ro:AH)(u0:Nat)(u1:Option Addr)(u2:ByteArray)(Q:Option Addr->Int->AH->Prop)(Y17:(ByteArray)->AH->Prop)(u3:Bool)(I:AH):=
 if u3=true then
 Q none 13 I
 else
 Y17 (u2) I
def aaf(B:World)(ro:AH)(u0:Nat)(u1:Option Addr)(Q:Option Addr->Int->AH->Prop):(ByteArray)->AH->((ByteArray)->AH->Prop)->Prop:=fun u2 I Y17=>
 wZ B ro u1 I fun u3 I=>
 if(0<u3)\/(u2=(⟨#[]⟩:ByteArray))then
 vE B ro u1 I fun u4 I=>
 wz B ro u1 I fun u5 I=>
 nw ro I (.cells #[.int .i64 0,.int .i64 0,.int .i64 0,.int .i64 0,Sl.v u5] 168) fun u6 I=>
 qt B ro u1 I fun u7 I=>
 qt B ro u1 I fun u8 I=>
 qt B ro u1 I fun u9 I=>
 stN ⟨u6,0,none⟩ (fun I=>
  stN ((⟨u6,0,none⟩:Addr).add 1) (fun I=>
  stN ((⟨u6,0,none⟩:Addr).add 2) (fun I=>
   wI B ro u1 I fun u10 I=>
   if¬(u10=0)then
   kJ B ro u0 u1 u4 Q Y17 true I
   else
   acx B ro (some ⟨u0,0,none⟩) u4 u2 (some ⟨u6,0,none⟩) I fun u11 I=>
   kJ B ro u0 u1 u4 Q Y17 (!u11) I) [.int .i64 u9] 0 I) [.int .i64 u8] 0 I) [.int .i64 u7] 0 I
 else
 pN B ro u0 Q I
def ady(B:World)(ro:AH)(a0:Sl)(I:AH)(Q:Option Addr->Int->AH->Prop):=
 nw ro I (.map #[] 0) fun u0 I=>
 nw ro I (.cells #[.map (some u0)] 239) fun u1 I=>
 jm B ro a0 I fun u2 I=>
 lfpD (aaf B ro u1 u2 Q) ((⟨#[]⟩:ByteArray)) I
theorem ajA{a0 Q}(h:Sep ro I->ady B ro a0 I Q):adt B ro a0 I Q:=by
 refine zb h func77 ntmps77 fun h=>?_;unfold ady at h;refine zw ?_;refine zA (ad3 rfl) h fun u0 h=>?_;refine zm (wD (vs:=[(0,.map (some u0))]) (cs:= #[.map (some u0)]) rfl nO arb arh rfl rfl) ?_;refine zAp (wY rfl rfl) h fun u1 h=>?_;refine AW.seqJ (fun fr I=>qg [(4,.pointer (some ⟨u1,0,none⟩))] fr/\pN B ro u1 Q I) ?_ ?_
 .rintro fr I ⟨hl,h⟩;refine AW.weaken ?_ hl (HLe.refl _)
  unfold pN at h;refine AW.seqJ (fun fr I=>qg [(4,.pointer (some ⟨u1,0,none⟩))] fr/\aa7 B ro u1 Q I) ?_ ?_
  .rintro fr I ⟨hl,h⟩;refine AW.weaken ?_ hl (HLe.refl _)
   unfold aa7 at h;exact zrr h
  refine zw ?_;refine zm (qC rfl rfl) ?_;refine zf nO acX ?_;refine zL nX h fun u2 h=>?_;refine zl (anQ rfl rfl (qj _ h ?_))
  rintro v I ⟨p3,rfl,h⟩;refine zw ?_;refine qf.loop (fr':=[(4,.pointer (some ⟨u1,0,none⟩)),(63,.pointer (some p3))]) ?_ FL
  refine h (fun _ I=>qf _ _ _ _ _ _ [(4,.pointer (some ⟨u1,0,none⟩)),(63,.pointer (some p3))] I) ?_
  rintro _ I Y7 hY7 h
  show AW _ _ _ _ _ _ _ _
  unfold aa8 at h;refine zw ?_;refine zl (anR rfl rfl rfl (qj _ h ?_))
  rintro v I (⟨rfl,h⟩ | ⟨u4,u5,rfl,h⟩)
  .refine zw ?_;refine AW.seq ?_;refine AW.no rfl ?_;refine AW.exit ?_;refine zw ?_;refine qN ?_
   refine zw ?_;exact⟨FL,h⟩
  .refine zw ?_;refine AW.seq ?_;refine AW.yes rfl ?_;refine zw ?_;refine zl (aq6 rfl rfl (qj _ h ?_))
   rintro v I ⟨u6,u7,rfl,h⟩;refine zw ?_;refine AW.seq ?_;refine AW.drawn0 (fun i=>([0,0,0,0,3,0,0,0,0,3,0]:List Nat).getD i 2) [] [0,1,2,3,5,6,7,8,4,9,10] mixed j0 ?_
   refine zM h fun p8 h=>?_;refine zg mR vb ?_;refine zg ni ty3 ?_;refine zM h fun p9 h=>?_;refine zg mR vb ?_;refine zg ni ty3 ?_;refine zR mj h fun u10 h=>?_;refine zR mj h fun u11 h=>?_;refine zw ?_;refine vn ?_
   refine zi h (fun h=>?_) fun h=>?_
   rotate_left
   .refine zw ?_;refine qf.head (fr':=[(4,.pointer (some ⟨u1,0,none⟩)),(63,.pointer (some p3))]) ?_ FL
    exact hY7 _ _ h
   exact zrr h
 refine zC func53 h fun u12 I h=>?_;refine qf.loop (fr':=[(4,.pointer (some ⟨u1,0,none⟩)),(6,.pointer u12),(5,.string (⟨#[]⟩:ByteArray))]) ?_ FL
 refine h (fun u13 I=>qf _ _ _ _ _ _ [(4,.pointer (some ⟨u1,0,none⟩)),(6,.pointer u12),(5,.string u13)] I) ?_
 rintro u13 I Y17 hY17 h
 show AW _ _ _ _ _ _ _ _
 unfold aaf at h;refine AW.seq ?_;refine zC func58 h fun u14 I h=>?_;refine qx 3 (decide (0<u14)) [(4,.pointer (some ⟨u1,0,none⟩)),(5,.string u13),(6,.pointer u12),(22,.bool ((decide (0<u14)) || (decide (u13=(⟨#[]⟩:ByteArray)))))] ?_ ?_ ?_
 .intro e3 hk3
  refine zv e3 ?_;exact hk3 _ (Fe e3)
 .intro e3 hk3
  refine zv e3 ?_;exact hk3 _ (Fe e3)
 intro fr hl
 refine Lfr hl ?_
 refine zw ?_;refine AW.iff rfl (qJ mg mg) h (fun h=>?_) (fun h=>?_)
 rotate_left
 .refine AW.exit ?_;refine zw ?_;refine qN ?_
  refine zw ?_;exact⟨FL,h⟩
 refine zc func55 h ?_;rintro v I ⟨u15,rfl,h⟩;refine zc func56 h ?_;rintro v I ⟨u16,rfl,h⟩;refine zm (wD (vs:=[(1,Sl.v u16)]) (cs:= #[.int .i64 0,.int .i64 0,.int .i64 0,.int .i64 0,Sl.v u16]) rfl mR anU anW rfl rfl) ?_;refine zA (wY rfl rfl) h fun u17 h=>?_;refine zc func54 h ?_;rintro v I ⟨u18,rfl,h⟩;refine zc func54 h ?_;rintro v I ⟨u19,rfl,h⟩;refine zc func54 h ?_
 rintro v I ⟨u20,rfl,h⟩;refine zm (qC rfl rfl) ?_;refine zf mR vb ?_;refine zf ni ty3 ?_;refine zs ty3 h fun I h=>?_;refine zm (qC rfl rfl) ?_;refine zf mR vb ?_;refine zf ni ty3 ?_;refine zs ty3 h fun I h=>?_;refine zm (qC rfl rfl) ?_;refine zf mR vb ?_;refine zf ni ty3 ?_;refine zsp ty3 h fun I h=>?_
 refine AW.seq ?_;refine zC func57 h fun u21 I h=>?_;refine qn 7 (!(decide (u21=0))) (qp mg) h (fun fr I=> ∃(u22:Bool),qg [(4,.pointer (some ⟨u1,0,none⟩)),(6,.pointer u12),(7,.string u15),(57,.bool u22)] fr/\kJ B ro u1 u12 u15 Q Y17 u22 I) ?_ ?_ ?_
 .intro h e3 hk3;refine zv e3 ?_;exact hk3 _ _ ⟨_,FL,h⟩
 .intro h e3 hk3;refine zv e3 ?_;refine Lyb rfl rfl rfl rfl e3 (wu rfl func133 rfl rfl rfl (qc.mono h ?_))
  rintro v I ⟨u23,rfl,h⟩;refine zv e3 ?_;exact hk3 _ _ ⟨_,FL,h⟩
 rintro fr I ⟨u22,hl,h⟩;unfold kJ at h;refine Lfr hl ?_
 refine zj h (fun h=>?_) fun h=>?_
 .exact zrr h
 refine zw ?_;refine qf.head (fr':=[(4,.pointer (some ⟨u1,0,none⟩)),(6,.pointer u12),(5,.string u15)]) ?_ FL
 exact hY17 _ _ h
def yx(B:World)(ro:AH)(u0:Option Addr)(Q:Sl->AH->Prop)(I:AH):=
 xT B ro u0 I fun u1 u2 I=>
 Q u1 I
def xD(B:World)(ro:AH)(a0 u0:Option Addr)(u1:Sl)(Q:Sl->AH->Prop):Int->AH->(Int->AH->Prop)->Prop:=fun u2 I Y6=>
 if u2<(u1.len:Int)then
 ∃p3,u1.a=some p3/\(0:Int)<=u2/\u2<(u1.len:Int)/\
 ∃u4,qb ro I (p3.add (Int.toNat u2*1))=some (.string u4)/\
 ∃p5,a0=some p5/\
 ∃u6,qb ro I p5=some (.map u6)/\
 awp prog ro (Instr.lookup 237 (.map u6) (.string u4) false) (fun v I=>
  (∃(u7:Option Addr),v= .pointer u7/\
  nw ro I (.cells #[.string u4] 9) fun u8 I=>
  zE B ro u0 (⟨some ⟨u8,0,none⟩,1,1⟩:Sl) I fun I=>
  ∃p9,u7=some p9/\
  ∃u10,qb ro I (p9.add 4)=some (Sl.v u10)/\
  nw ro I (.cells #[Sl.v u10] 24) fun u11 I=>
  vo B ro u0 (⟨some ⟨u11,0,none⟩,1,1⟩:Sl) I fun I=>
  ∃p12,u7=some p12/\
  ∃p13,u7=some p13/\
  ∃p14,u7=some p14/\
  ∃u15,qb ro I p12=some (.int .i64 u15)/\
  ∃u16,qb ro I (p13.add 1)=some (.int .i64 u16)/\
  ∃u17,qb ro I (p14.add 2)=some (.int .i64 u17)/\
  nw ro I (.cells #[.int .i64 u15,.int .i64 u16,.int .i64 u17] 3) fun u18 I=>
  qX B ro u0 (⟨some ⟨u18,0,none⟩,3,3⟩:Sl) I fun I=>
  Y6 (i64.wrap (u2+1)) I)) I
 else
 yx B ro u0 Q I
def aaQ(B:World)(ro:AH)(a0:Option Addr)(I:AH)(Q:Sl->AH->Prop):=
 jl B ro I fun u0 I=>
 abp B ro a0 I fun u1 I=>
 lfpD (xD B ro a0 u0 u1 Q) (0) I
theorem agQ{a0 Q}(h:Sep ro I->aaQ B ro a0 I Q):aaL B ro a0 I Q:=by
 refine zb h func78 ntmps78 fun h=>?_;unfold aaQ at h;refine zC func43 h fun u0 I h=>?_;refine AW.seqJ (fun fr I=>qg [(3,.pointer u0)] fr/\yx B ro u0 Q I) ?_ ?_
 .rintro fr I ⟨hl,h⟩;refine AW.weaken ?_ hl (HLe.refl _)
  unfold yx at h;refine zc func47 h ?_;rintro v I ⟨u1,u2,rfl,h⟩;exact zr h
 refine zc func84 h ?_;rintro v I ⟨u3,rfl,h⟩;refine zm (qD rfl rfl mP rfl rfl) ?_;refine zw ?_;refine qf.loop (fr':=[(0,.pointer a0),(3,.pointer u0),(11,Sl.v u3),(12,.int .i64 (u3.len:Int)),(13,.int .i64 0)]) ?_ FL
 refine h (fun u4 I=>qf _ _ _ _ _ _ [(0,.pointer a0),(3,.pointer u0),(11,Sl.v u3),(12,.int .i64 (u3.len:Int)),(13,.int .i64 u4)] I) ?_
 rintro u4 I Y6 hY6 h
 show AW _ _ _ _ _ _ _ _
 unfold xD at h;refine zw ?_;refine AW.seq ?_;refine zi h (fun h=>?_) fun h=>?_
 rotate_left
 .refine AW.exit ?_;refine zw ?_;refine qN ?_
  refine zw ?_;exact⟨FL,h⟩
 refine zw ?_;refine AW.seq ?_;refine zw ?_;obtain⟨p5,ha,h0,h1,h⟩:=h
 refine zm (wR rfl mP ty9 (ixL rfl ha) rfl h0 h1) ?_;refine zL mu h fun u6 h=>?_;refine zN h fun p7 h=>?_;refine zf nO acX ?_;refine zLp nX h fun u8 h=>?_;refine zl (acW rfl rfl rfl (qj _ h ?_))
 rintro v I ⟨u9,rfl,h⟩;refine zw ?_;refine zA (wS (vs:=[(0,.string u6)]) (cs:= #[.string u6]) rfl mP ty9 z8 rfl rfl) h fun u10 h=>?_;refine zc func45 h ?_;rintro v I ⟨rfl,h⟩;refine zN h fun p11 h=>?_;refine zf mR wq ?_;refine zL mo h fun u12 h=>?_;refine zA (wS (vs:=[(0,Sl.v u12)]) (cs:= #[Sl.v u12]) rfl Lr wq z8 rfl rfl) h fun u13 h=>?_
 refine zc func46 h ?_;rintro v I ⟨rfl,h⟩;refine zw ?_;refine AW.drawn0 (fun i=>([0,0,0,0,0,3,0,0,0,0,3,0,0,0,0,3,1,2]:List Nat).getD i 2) [(5,16),(5,17),(10,16),(10,17),(15,16),(15,17)] [0,1,2,3,4,6,7,8,9,11,12,13,14,5,10,15,16,17] mixed j0 ?_
 refine zM h fun p14 h=>?_;refine zg mR vb ?_;refine zg ni ty3 ?_;refine zM h fun p15 h=>?_;refine zg mR vb ?_;refine zg ni ty3 ?_;refine zM h fun p16 h=>?_;refine zg mR vb ?_;refine zg ni ty3 ?_;refine zR mj h fun u17 h=>?_;refine zR mj h fun u18 h=>?_;refine zR mj h fun u19 h=>?_
 refine Da rfl rfl rfl rfl (wS (vs:=[(0,.int .i64 u17),(1,.int .i64 u18),(2,.int .i64 u19)]) (cs:= #[.int .i64 u17,.int .i64 u18,.int .i64 u19]) rfl mx ty3 z8 rfl rfl) fun u20 g1 g2=>?_
 replace h:=h u20 g1 g2
 refine zG func44 h ?_;rintro v I ⟨rfl,h⟩;refine vn ?_
 refine zw ?_;refine qf.head (fr':=[(0,.pointer a0),(3,.pointer u0),(11,Sl.v u3),(12,.int .i64 (u3.len:Int)),(13,.int .i64 (i64.wrap (u4+1)))]) ?_ FL
 exact hY6 _ _ h
def abX(B:World)(ro:AH)(a0:Option Addr)(a1:ByteArray)(I:AH)(Q:Option Addr->Int->AH->Prop):=
 jJ B ro a1 I fun u0 I=>
 if¬(u0=0)then
 Q none u0 I
 else
 ∃p1,a0=some p1/\
 ∃u2,qb ro I p1=some (.map u2)/\
 awp prog ro (Instr.lookup 237 (.map u2) (.string a1) false) (fun v I=>
 (∃(u3:Option Addr),v= .pointer u3/\
  if u3=none then
  Q none 70 I
  else
  Q u3 0 I)) I
theorem ahP{a0 a1 Q}(h:Sep ro I->abX B ro a0 a1 I Q):abU B ro a0 a1 I Q:=by
 refine zb h func79 ntmps79 fun h=>?_;unfold abX at h;refine zw ?_;refine AW.seq ?_;refine zC func82 h fun u0 I h=>?_;refine AW.iff rfl (qp mg) h (fun h=>?_) (fun h=>?_)
 .exact zrr h
 refine zN h fun p1 h=>?_;refine zf nO acX ?_;refine zLp nX h fun u2 h=>?_;refine zl (acW rfl rfl rfl (qj _ h ?_))
 rintro v I ⟨u3,rfl,h⟩;refine zw ?_;refine AW.seq ?_;refine zw ?_;refine zm (afI rfl LY rfl rfl) ?_;refine zw ?_;refine AW.iff rfl vP h (fun h=>?_) (fun h=>?_)
 .exact zrr h
 exact zrr h
def abu(B:World)(ro:AH)(a0:Option Addr)(I:AH)(Q:Sl->AH->Prop):=
 ∃p0,a0=some p0/\
 ∃u1,qb ro I p0=some (.map u1)/\
 ab9 B ro u1 I fun u2 I=>
 jB B ro u2 I fun u3 I=>
 Q u3 I
theorem ahn{a0 Q}(h:Sep ro I->abu B ro a0 I Q):abp B ro a0 I Q:=by
 refine zb h func84 ntmps84 fun h=>?_;unfold abu at h;refine zN h fun p0 h=>?_;refine zf nO acX ?_;refine zL nX h fun u1 h=>?_;refine zc func137 h ?_;rintro u2 I ⟨_,rfl,h⟩
 refine zc func136 h ?_;rintro v I ⟨u3,rfl,h⟩;exact zr h
def vy(B:World)(ro:AH)(a0:Option Addr)(a2:Sl)(a3:Int)(u0:Option Addr)(Q:ByteArray->Int->AH->Prop)(u1:ByteArray)(I:AH):=
 ∃p2,a0=some p2/\
 ∃u3,qb ro I p2=some (.map u3)/\
 awp prog ro (Instr.lookup 237 (.map u3) (.string u1) false) (fun v I=>
 (∃(u4:Option Addr),v= .pointer u4/\
  if¬(u4=none)then
  Q (⟨#[]⟩:ByteArray) 71 I
  else
  uS I fun ψ I=>
  ∃p5,a0=some p5/\
  ∃u6,qb (join ro ψ) (fun _=>none) p5=some (.map u6)/\
  xY B (join ro ψ) a2 I fun u7 I=>
  nw (join ro ψ) I (.cells #[.int .i64 0,.int .i64 0,.int .i64 a3,.int .i64 0,Sl.v u7] 168) fun u8 I=>
  awp prog (join ro ψ) (Instr.mapUpdate 237 (.map u6) (.string u1) (.pointer (some ⟨u8,0,none⟩))) (fun _ I=>
   (qI ψ I->(fun I=>
   ∃p9,u0=some p9/\
   ∃u10,qb ro I (p9.add 1)=some (.int .i64 u10)/\
   ∃p11,u0=some p11/\
   stN (p11.add 1) (fun I=>
    ∃p12,u0=some p12/\
    ∃u13,qb ro I (p12.add 3)=some (.int .i64 u13)/\
    ∃p14,u0=some p14/\
    stN (p14.add 3) (fun I=>
    Q u1 0 I) [.int .i64 (i64.wrap (u13+1))] 0 I) [.int .i64 (i64.wrap (u10+1))] 0 I) (join ψ I))) I)) I
def aaR(B:World)(ro:AH)(a0:Option Addr)(a1:ByteArray)(a2:Sl)(a3:Int)(a4:Bool)(I:AH)(Q:ByteArray->Int->AH->Prop):=
 acm B ro a1 I fun u0 u1 I=>
 if¬(u1=0)then
 Q (⟨#[]⟩:ByteArray) u1 I
 else
 if 256<(a2.len:Int)then
 Q (⟨#[]⟩:ByteArray) 75 I
 else
 if(a3<0)\/(4611686018427387903<a3)then
 Q (⟨#[]⟩:ByteArray) 10 I
 else
 ∃p2,a0=some p2/\
 ∃u3,qb ro I p2=some (.map u3)/\
 awp prog ro (Instr.lookup 237 (.map u3) (.string u0) false) (fun v I=>
 (∃(u4:Option Addr),v= .pointer u4/\
  if u4=none then
  Q (⟨#[]⟩:ByteArray) 70 I
  else
  ∃p5,u4=some p5/\
  ∃u6,qb ro I (p5.add 2)=some (.int .i64 u6)/\
  if¬(u6=0)then
  Q (⟨#[]⟩:ByteArray) 74 I
  else
  ∃p7,u4=some p7/\
  ∃u8,qb ro I (p7.add 1)=some (.int .i64 u8)/\
  if 9999999999<u8 then
  Q (⟨#[]⟩:ByteArray) 76 I
  else
  if a4=true then
  ∃p9,u4=some p9/\
  ∃u10,qb ro I (p9.add 1)=some (.int .i64 u10)/\
  aem B ro a1 u10 I fun u11 u12 I=>
  if¬(u12=0)then
   Q (⟨#[]⟩:ByteArray) u12 I
  else
  vy B ro a0 a2 a3 u4 Q u11 I
  else
  vy B ro a0 a2 a3 u4 Q a1 I)) I
theorem agR{a0 a1 a2 a3 a4 Q}(h:Sep ro I->aaR B ro a0 a1 a2 a3 a4 I Q):aaM B ro a0 a1 a2 a3 a4 I Q:=by
 refine zb h func122 ntmps122 fun h=>?_;unfold aaR at h;refine zc func179 h ?_;rintro v I ⟨u0,u1,rfl,h⟩;refine zw ?_;refine AW.seq ?_;refine zw ?_;refine AW.iff rfl (qp mg) h (fun h=>?_) (fun h=>?_)
 .exact zrr h
 refine zw ?_;refine zm (qD rfl rfl mo rfl rfl) ?_;refine zi h (fun h=>?_) fun h=>?_
 .exact zrr h
 refine zw ?_;refine qx 3 (decide (a3<0)) [(0,.pointer a0),(1,.string a1),(2,Sl.v a2),(3,.int .i64 a3),(4,.bool a4),(12,.string u0),(34,.bool ((decide (a3<0)) || (decide (4611686018427387903<a3))))] ?_ ?_ ?_
 .intro e2 hk2
  refine zv e2 ?_;exact hk2 _ (Fe e2)
 .intro e2 hk2
  refine zv e2 ?_;exact hk2 _ (Fe e2)
 intro fr hl
 refine Lfr hl ?_
 refine zw ?_;refine AW.iff rfl (qJ mg mg) h (fun h=>?_) (fun h=>?_)
 .exact zrr h
 refine zN h fun p2 h=>?_;refine zf nO acX ?_;refine zLp nX h fun u3 h=>?_;refine zl (acW rfl rfl rfl (qj _ h ?_))
 rintro v I ⟨u4,rfl,h⟩;refine zw ?_;refine AW.seq ?_;refine zw ?_;refine zm (afI rfl LY rfl rfl) ?_;refine zw ?_;refine AW.iff rfl vP h (fun h=>?_) (fun h=>?_)
 .exact zrr h
 refine zN h fun p5 h=>?_;refine zf mR vb ?_;refine zf ni ty3 ?_;refine zLp mj h fun u6 h=>?_;refine AW.iff rfl (qp mg) h (fun h=>?_) (fun h=>?_)
 .exact zrr h
 refine zN h fun p7 h=>?_;refine zf mR vb ?_;refine zf ni ty3 ?_;refine zL mj h fun u8 h=>?_;refine zi h (fun h=>?_) fun h=>?_
 .exact zrr h
 refine zw ?_;refine AW.seqJ (fun fr I=> ∃(u9:ByteArray),qg [(0,.pointer a0),(2,Sl.v a2),(3,.int .i64 a3),(14,.pointer u4),(1,.string u9)] fr/\vy B ro a0 a2 a3 u4 Q u9 I) ?_ ?_
 rotate_left
 .refine zj h (fun h=>?_) fun h=>?_
  rotate_left
  .refine zw ?_;exact⟨_,FL,h⟩
  refine zN h fun p10 h=>?_;refine zf mR vb ?_;refine zf ni ty3 ?_;refine zL mj h fun u11 h=>?_;refine zc func180 h ?_;rintro v I ⟨u12,u13,rfl,h⟩;refine zw ?_;refine AW.iff rfl (qp mg) h (fun h=>?_) (fun h=>?_)
  rotate_left
  .refine zw ?_;exact⟨_,FL,h⟩
  exact zrr h
 rintro fr I ⟨u9,hl,h⟩;refine AW.weaken ?_ hl (HLe.refl _)
 unfold vy at h;refine AW.seq ?_;refine zN h fun p14 h=>?_;refine zf nO acX ?_;refine zLp nX h fun u15 h=>?_;refine zl (acW rfl rfl rfl (qj _ h ?_))
 rintro v I ⟨u16,rfl,h⟩;refine zm (aq4 rfl LY rfl rfl) ?_;refine zw ?_;refine AW.iff rfl (qp vP) h (fun h=>?_) (fun h=>?_)
 .exact zrr h
 refine zw ?_;refine AW.seq ?_;refine AW.drawnL (fun i=>([0,0,0,0,0,0,0,0,2,0,1,2]:List Nat).getD i 2) [] [0,1,2,3,4,5,6,7,8,9,10,11] mixed h j0 ?_
 clear h
 intro ψ I h
 refine zM h fun p17 h=>?_;refine zg nO acX ?_;refine zS nX h fun u18 h=>?_;refine zw ?_;refine Dp rfl rfl rfl rfl (wD (vs:=[(2,.int .i64 a3)]) (cs:= #[.int .i64 0,.int .i64 0,.int .i64 a3,.int .i64 0]) rfl ni vb asf rfl rfl) ?_
 refine zG func80 h ?_;rintro v I ⟨u19,rfl,h⟩;refine Dp rfl rfl rfl rfl (wD (vs:=[(0,.agg #[.int .i64 0,.int .i64 0,.int .i64 a3,.int .i64 0]),(1,Sl.v u19)]) (cs:= #[.int .i64 0,.int .i64 0,.int .i64 a3,.int .i64 0,Sl.v u19]) rfl mR anU anW rfl rfl) ?_
 refine Da rfl rfl rfl rfl (wY rfl rfl) fun u20 g1 g2=>?_
 replace h:=h u20 g1 g2
 refine Dg rfl rfl rfl rfl (aie (.inl rfl) rfl rfl rfl (qj _ h ?_))
 rintro _ I h
 refine⟨_,zz.refl _,fun hdj=>?_⟩
 replace h:=h hdj
 refine zN h fun p21 h=>?_;refine zf mR vb ?_;refine zf ni ty3 ?_;refine zL mj h fun u22 h=>?_;refine zN h fun p23 h=>?_;refine zf mR vb ?_;refine zf ni ty3 ?_;refine zs ty3 h fun I h=>?_;refine zN h fun p24 h=>?_;refine zf mR vb ?_;refine zf ni ty3 ?_;refine zL mj h fun u25 h=>?_;refine zN h fun p26 h=>?_
 refine zf mR vb ?_;refine zf ni ty3 ?_;refine zs ty3 h fun I h=>?_;exact zrr h
def vH(B:World)(ro:AH)(Q:Bool->AH->Prop)(u0:Bool)(I:AH):=
 Q u0 I
def kW(B:World)(ro:AH)(a3:Option Addr)(Q:Bool->AH->Prop)(u0:Bool)(I:AH):=
 if u0=true then
 ∃p1,a3=some p1/\
 ∃u2,qb ro I (p1.add 2)=some (.int .i64 u2)/\
 vH B ro Q (decide (u2=0)) I
 else
 vH B ro Q false I
def kX(B:World)(ro:AH)(a3:Option Addr)(Q:Bool->AH->Prop)(u0:Bool)(I:AH):=
 if u0=true then
 ∃p1,a3=some p1/\
 ∃u2,qb ro I p1=some (.int .i64 u2)/\
 kW B ro a3 Q (decide (u2=0)) I
 else
 kW B ro a3 Q false I
def zh(B:World)(ro:AH)(a0:Option Addr)(a1:ByteArray)(a3 u0:Option Addr)(Q:Bool->AH->Prop)(u1:Bool)(I:AH):=
 if u1=true then
 Q false I
 else
 ∃p2,u0=some p2/\
 ∃u3,qb ro I (p2.add 3)=some (.int .i64 u3)/\
 ∃p4,u0=some p4/\
 stN (p4.add 3) (fun I=>
 ∃p5,a0=some p5/\
 ∃u6,qb ro I p5=some (.map u6)/\
 awp prog ro (Instr.mapUpdate 237 (.map u6) (.string a1) (.pointer a3)) (fun _ I=>
  Q true I) I) [.int .i64 (i64.wrap (u3+1))] 0 I
def vk(B:World)(ro:AH)(a0:Option Addr)(a1 a2:ByteArray)(a3:Option Addr)(Q:Bool->AH->Prop)(u0:Bool)(I:AH):=
 if u0=true then
 Q false I
 else
 if a2=(⟨#[]⟩:ByteArray)then
 ∃p1,a0=some p1/\
 ∃u2,qb ro I p1=some (.map u2)/\
 awp prog ro (Instr.mapUpdate 237 (.map u2) (.string a1) (.pointer a3)) (fun _ I=>
  if a1=(⟨#[47]⟩:ByteArray)then
  ∃p3,a3=some p3/\
  ∃u4,qb ro I (p3.add 4)=some (Sl.v u4)/\
  kX B ro a3 Q (decide ((u4.len:Int)=0)) I
  else
  kX B ro a3 Q false I) I
 else
 acm B ro a1 I fun u5 u6 I=>
 ∃p7,a0=some p7/\
 ∃u8,qb ro I p7=some (.map u8)/\
 awp prog ro (Instr.lookup 237 (.map u8) (.string u5) false) (fun v I=>
 (∃(u9:Option Addr),v= .pointer u9/\
  if u9=none then
  zh B ro a0 a1 a3 u9 Q true I
  else
  ∃p10,u9=some p10/\
  ∃u11,qb ro I (p10.add 2)=some (.int .i64 u11)/\
  zh B ro a0 a1 a3 u9 Q (!(decide (u11=0))) I)) I
def kY(B:World)(ro:AH)(a0:Option Addr)(a1 a2:ByteArray)(a3:Option Addr)(u0:Bool)(Q:Bool->AH->Prop)(u1:Bool)(I:AH):=
 vk B ro a0 a1 a2 a3 Q u1 I
def ki(B:World)(ro:AH)(a0:Option Addr)(a1 a2:ByteArray)(a3:Option Addr)(Q:Bool->AH->Prop)(u0:Bool)(I:AH):=
 if u0=true then
 vk B ro a0 a1 a2 a3 Q true I
 else
 ∃p1,a3=some p1/\
 ∃u2,qb ro I (p1.add 2)=some (.int .i64 u2)/\
 if¬(u2=0)then
 ∃p3,a3=some p3/\
 ∃u4,qb ro I (p3.add 1)=some (.int .i64 u4)/\
 kY B ro a0 a1 a2 a3 u0 Q (decide (0<u4)) I
 else
 kY B ro a0 a1 a2 a3 u0 Q false I
def kj(B:World)(ro:AH)(a0:Option Addr)(a1 a2:ByteArray)(a3:Option Addr)(Q:Bool->AH->Prop)(u0:Bool)(I:AH):=
 if u0=true then
 ki B ro a0 a1 a2 a3 Q true I
 else
 ∃p1,a3=some p1/\
 ∃u2,qb ro I (p1.add 1)=some (.int .i64 u2)/\
 ki B ro a0 a1 a2 a3 Q (decide (10000000000<u2)) I
def acC(B:World)(ro:AH)(a0:Option Addr)(a1 a2:ByteArray)(a3:Option Addr)(I:AH)(Q:Bool->AH->Prop):=
 jJ B ro a1 I fun u0 I=>
 if(¬(u0=0))\/(((zD a1 a2)=true)\/(a1=a2))then
 kj B ro a0 a1 a2 a3 Q true I
 else
 ∃p1,a3=some p1/\
 ∃u2,qb ro I (p1.add 4)=some (Sl.v u2)/\
 kj B ro a0 a1 a2 a3 Q (decide (256<(u2.len:Int))) I
theorem air{a0 a1 a2 a3 Q}(h:Sep ro I->acC B ro a0 a1 a2 a3 I Q):acx B ro a0 a1 a2 a3 I Q:=by
 refine zb h func133 ntmps133 fun h=>?_;unfold acC at h;refine zw ?_;refine AW.seq ?_;refine zC func82 h fun u0 I h=>?_;refine qx 4 (!(decide (u0=0))) [(0,.pointer a0),(1,.string a1),(2,.string a2),(3,.pointer a3),(20,.bool ((!(decide (u0=0))) || ((zD a1 a2) || (decide (a1=a2)))))] ?_ ?_ ?_
 .intro e3 hk3
  refine zv e3 ?_;exact hk3 _ (Fe e3)
 .intro e3 hk3
  refine zv e3 ?_;refine qo (ajh rfl rfl rfl) rfl rfl rfl rfl e3 ?_
  refine zk e3 ?_;exact hk3 _ (Fe e3)
 intro fr hl
 refine Lfr hl ?_
 refine zw ?_;refine qn 7 ((!(decide (u0=0))) || ((zD a1 a2) || (decide (a1=a2)))) (qJ (qp mg) (qJ Iff.rfl mg)) h (fun fr I=> ∃(u1:Bool),qg [(0,.pointer a0),(1,.string a1),(2,.string a2),(3,.pointer a3),(28,.bool u1)] fr/\kj B ro a0 a1 a2 a3 Q u1 I) ?_ ?_ ?_
 .intro h e8 hk8;refine zv e8 ?_;exact hk8 _ _ ⟨_,FL,h⟩
 .intro h e8 hk8;refine zy e8 ?_;obtain⟨p2,hc,h⟩:=h
  refine qo (qC rfl (by rw[<-hc];try rfl)) rfl rfl rfl rfl e8 ?_
  refine qo (qK rfl mR rfl wq z8 rfl) rfl rfl rfl rfl e8 ?_
  obtain⟨u3,hc,h⟩:=h
  refine Lyb rfl rfl rfl rfl e8 (wU rfl mo rfl rfl hc ?_)
  refine qo (qD rfl rfl mo rfl rfl) rfl rfl rfl rfl e8 ?_
  refine zv e8 ?_;exact hk8 _ _ ⟨_,FL,h⟩
 rintro fr I ⟨u1,hl,h⟩;unfold kj at h;refine Lfr hl ?_
 refine zw ?_;refine qn 7 u1 Iff.rfl h (fun fr I=> ∃(u4:Bool),qg [(0,.pointer a0),(1,.string a1),(2,.string a2),(3,.pointer a3),(36,.bool u4)] fr/\ki B ro a0 a1 a2 a3 Q u4 I) ?_ ?_ ?_
 .intro h e16 hk16;refine zv e16 ?_;exact hk16 _ _ ⟨_,FL,h⟩
 .intro h e16 hk16;refine zy e16 ?_;obtain⟨p5,hc,h⟩:=h
  refine qo (qC rfl (by rw[<-hc];try rfl)) rfl rfl rfl rfl e16 ?_
  refine qo (qK rfl mR rfl vb z8 rfl) rfl rfl rfl rfl e16 ?_
  refine qo (qK rfl ni rfl ty3 z8 rfl) rfl rfl rfl rfl e16 ?_
  obtain⟨u6,hc,h⟩:=h
  refine Lyb rfl rfl rfl rfl e16 (wU rfl mj rfl rfl hc ?_)
  refine zv e16 ?_;exact hk16 _ _ ⟨_,FL,h⟩
 rintro fr I ⟨u4,hl,h⟩;unfold ki at h;refine Lfr hl ?_
 refine zw ?_;refine qn 15 u4 Iff.rfl h (fun fr I=> ∃(u7:Bool),qg [(0,.pointer a0),(1,.string a1),(2,.string a2),(3,.pointer a3),(52,.bool u7)] fr/\vk B ro a0 a1 a2 a3 Q u7 I) ?_ ?_ ?_
 .intro h e24 hk24;refine zv e24 ?_;refine Ln rfl rfl rfl rfl (.inr rfl) ?_
  refine Ln rfl rfl rfl rfl (.inr rfl) ?_
  refine Ln rfl rfl rfl rfl (.inr rfl) ?_
  refine Ln rfl rfl rfl rfl (.inr rfl) ?_
  refine Ln rfl rfl rfl rfl (.inr rfl) ?_
  refine Ln rfl rfl rfl rfl (.inr rfl) ?_
  refine zv e24 ?_;exact hk24 _ _ ⟨_,FL,h⟩
 .intro h e24 hk24;refine zy e24 ?_;obtain⟨p8,hc,h⟩:=h
  refine qo (qC rfl (by rw[<-hc];try rfl)) rfl rfl rfl rfl e24 ?_
  refine qo (qK rfl mR rfl vb z8 rfl) rfl rfl rfl rfl e24 ?_
  refine qo (qK rfl ni rfl ty3 z8 rfl) rfl rfl rfl rfl e24 ?_
  obtain⟨u9,hc,h⟩:=h
  refine Lyb rfl rfl rfl rfl e24 (wU rfl mj rfl rfl hc ?_)
  refine zv e24 ?_;refine qn 7 (!(decide (u9=0))) (qp mg) h (fun fr I=> ∃(u10:Bool),qg [(0,.pointer a0),(1,.string a1),(2,.string a2),(3,.pointer a3),(37,.bool u4),(51,.bool u10)] fr/\kY B ro a0 a1 a2 a3 u4 Q u10 I) ?_ ?_ ?_
  .intro h e31 hk31;refine zy e31 ?_;obtain⟨p11,hc,h⟩:=h
   refine qo (qC rfl (by rw[<-hc];try rfl)) rfl rfl rfl rfl e31 ?_
   refine qo (qK rfl mR rfl vb z8 rfl) rfl rfl rfl rfl e31 ?_
   refine qo (qK rfl ni rfl ty3 z8 rfl) rfl rfl rfl rfl e31 ?_
   obtain⟨u12,hc,h⟩:=h
   refine Lyb rfl rfl rfl rfl e31 (wU rfl mj rfl rfl hc ?_)
   refine zy e31 ?_;refine qo (qT rfl (evb e31) rfl) rfl rfl rfl rfl e24 ?_
   exact hk31 _ _ ⟨_,FL,h⟩
  .intro h e31 hk31;refine zv e31 ?_;refine qo (wL rfl (evb e31) rfl) rfl rfl rfl rfl e24 ?_
   exact hk31 _ _ ⟨_,FL,h⟩
  rintro fr I ⟨u10,hl,h⟩;unfold kY at h;refine Lfr hl ?_
  refine zk e24 ?_;exact hk24 _ _ ⟨_,FL,h⟩
 rintro fr I ⟨u7,hl,h⟩;unfold vk at h;refine Lfr hl ?_
 refine zj h (fun h=>?_) fun h=>?_
 .exact zr h
 refine zi h (fun h=>?_) fun h=>?_
 rotate_left
 .refine zc func179 h ?_;rintro v I ⟨u13,u14,rfl,h⟩;refine zN h fun p15 h=>?_;refine zf nO acX ?_;refine zLp nX h fun u16 h=>?_;refine zl (acW rfl rfl rfl (qj _ h ?_))
  rintro v I ⟨u17,rfl,h⟩;refine zw ?_;refine AW.seq ?_;refine zw ?_;refine zm (afI rfl LY rfl rfl) ?_;refine zw ?_;refine qn 7 u17.isNone vP h (fun fr I=> ∃(u18:Bool),qg [(0,.pointer a0),(1,.string a1),(3,.pointer a3),(11,.pointer u17),(108,.bool u18)] fr/\zh B ro a0 a1 a3 u17 Q u18 I) ?_ ?_ ?_
  .intro h e2 hk2;refine zv e2 ?_;exact hk2 _ _ ⟨_,FL,h⟩
  .intro h e2 hk2;refine zy e2 ?_;obtain⟨p19,hc,h⟩:=h
   refine qo (qC rfl (by rw[<-hc];try rfl)) rfl rfl rfl rfl e2 ?_
   refine qo (qK rfl mR rfl vb z8 rfl) rfl rfl rfl rfl e2 ?_
   refine qo (qK rfl ni rfl ty3 z8 rfl) rfl rfl rfl rfl e2 ?_
   obtain⟨u20,hc,h⟩:=h
   refine Lyb rfl rfl rfl rfl e2 (wU rfl mj rfl rfl hc ?_)
   refine zv e2 ?_;exact hk2 _ _ ⟨_,FL,h⟩
  rintro fr I ⟨u18,hl,h⟩;unfold zh at h;refine Lfr hl ?_
  refine zj h (fun h=>?_) fun h=>?_
  .exact zr h
  refine zN h fun p21 h=>?_;refine zf mR vb ?_;refine zf ni ty3 ?_;refine zL mj h fun u22 h=>?_;refine zN h fun p23 h=>?_;refine zf mR vb ?_;refine zf ni ty3 ?_;refine zs ty3 h fun I h=>?_;refine zN h fun p24 h=>?_;refine zf nO acX ?_;refine zLp nX h fun u25 h=>?_;refine zl (aie (.inl rfl) rfl rfl rfl (qj _ h ?_))
  rintro _ I h
  exact zr h
 refine zN h fun p26 h=>?_;refine zf nO acX ?_;refine zLp nX h fun u27 h=>?_;refine zl (aie (.inl rfl) rfl rfl rfl (qj _ h ?_))
 rintro _ I h
 refine zw ?_;refine qn 7 (decide (a1=(⟨#[47]⟩:ByteArray))) mg h (fun fr I=> ∃(u28:Bool),qg [(3,.pointer a3),(71,.bool u28)] fr/\kX B ro a3 Q u28 I) ?_ ?_ ?_
 .intro h e2 hk2;refine zy e2 ?_;obtain⟨p29,hc,h⟩:=h
  refine qo (qC rfl (by rw[<-hc];try rfl)) rfl rfl rfl rfl e2 ?_
  refine qo (qK rfl mR rfl wq z8 rfl) rfl rfl rfl rfl e2 ?_
  obtain⟨u30,hc,h⟩:=h
  refine Lyb rfl rfl rfl rfl e2 (wU rfl mo rfl rfl hc ?_)
  refine qo (qD rfl rfl mo rfl rfl) rfl rfl rfl rfl e2 ?_
  refine zv e2 ?_;exact hk2 _ _ ⟨_,FL,h⟩
 .intro h e2 hk2;refine zv e2 ?_;exact hk2 _ _ ⟨_,FL,h⟩
 rintro fr I ⟨u28,hl,h⟩;unfold kX at h;refine Lfr hl ?_
 refine zw ?_;refine qn 7 u28 Iff.rfl h (fun fr I=> ∃(u31:Bool),qg [(3,.pointer a3),(79,.bool u31)] fr/\kW B ro a3 Q u31 I) ?_ ?_ ?_
 .intro h e10 hk10;refine zy e10 ?_;obtain⟨p32,hc,h⟩:=h
  refine qo (qC rfl (by rw[<-hc];try rfl)) rfl rfl rfl rfl e10 ?_
  refine qo (qK rfl mR rfl vb z8 rfl) rfl rfl rfl rfl e10 ?_
  refine qo (qK rfl ni rfl ty3 z8 rfl) rfl rfl rfl rfl e10 ?_
  obtain⟨u33,hc,h⟩:=h
  refine Lyb rfl rfl rfl rfl e10 (wU rfl mj rfl rfl hc ?_)
  refine zv e10 ?_;exact hk10 _ _ ⟨_,FL,h⟩
 .intro h e10 hk10;refine zv e10 ?_;exact hk10 _ _ ⟨_,FL,h⟩
 rintro fr I ⟨u31,hl,h⟩;unfold kW at h;refine Lfr hl ?_
 refine zw ?_;refine qn 7 u31 Iff.rfl h (fun fr I=> ∃(u34:Bool),qg [(87,.bool u34)] fr/\vH B ro Q u34 I) ?_ ?_ ?_
 .intro h e18 hk18;refine zy e18 ?_;obtain⟨p35,hc,h⟩:=h
  refine qo (qC rfl (by rw[<-hc];try rfl)) rfl rfl rfl rfl e18 ?_
  refine qo (qK rfl mR rfl vb z8 rfl) rfl rfl rfl rfl e18 ?_
  refine qo (qK rfl ni rfl ty3 z8 rfl) rfl rfl rfl rfl e18 ?_
  obtain⟨u36,hc,h⟩:=h
  refine Lyb rfl rfl rfl rfl e18 (wU rfl mj rfl rfl hc ?_)
  refine zv e18 ?_;exact hk18 _ _ ⟨_,FL,h⟩
 .intro h e18 hk18;refine zv e18 ?_;exact hk18 _ _ ⟨_,FL,h⟩
 rintro fr I ⟨u34,hl,h⟩;unfold vH at h;refine Lfr hl ?_
 exact zr h
end G
namespace Zt
open Go SL G Pa
variable{B:World}[Zd B]{ro I I':AH}{tag tag':Nat->Nat}
variable{p:ByteArray}{R bs:List Nat}{M T b i r:Nat}{s:Sl}{d q u:Str}
structure Nd where
 ver:Int
 ctr:Int
 own:Int
 kids:Int
 data:Str
abbrev St:=List (Str×Nd)
abbrev vI(x:Int):Value:= .int .i64 x
abbrev vU(c:UInt8):Value:= .int .u8 c.toNat
abbrev ptr(b:Nat):Value:= .pointer (some ⟨b,0,none⟩)
def acd(tag:Nat->Nat)(I:AH)(r b:Nat)(n:Nd):Prop:=
 ∃s:Sl,Row tag I (r+64*(b+2)) 168 ⟨some ⟨b,0,none⟩,5,5⟩ [vI n.ver,vI n.ctr,vI n.own,vI n.kids,Sl.v s]/\Row tag I 6 5 s (n.data.map vU)
def kv:St->List Nat->KV
 | (p,_)::st,b::bs=>(p,ptr b)::kv st bs
 | _,_=>[]
structure zo(tag:Nat->Nat)(I:AH)(r T M:Nat)(bs:List Nat)(st:St):Prop where
 keys:(st.map (·.1)).Nodup
 len:bs.length=st.length
 nd:bs.Nodup
 cell:Row tag I r 239 ⟨some ⟨T,0,none⟩,1,1⟩ [.map (some M)]
 map:xw tag I (r+64) M (kv st bs)
 nodes:∀ (i b:Nat) (p:Str×Nd),bs[i]?=some b->st[i]?=some p->acd tag I r b p.2
def vJ(tag:Nat->Nat)(I:AH)(r T:Nat)(st:St):Prop:= ∃M bs,zo tag I r T M bs st
theorem acd.keep{n:Nd}(h:acd tag I r b n)(k:qd R ro tag I tag' I')(h1:r+64*(b+2)∉R:=by simp)(h2:6∉R:=by simp):acd tag' I' r b n:=by
 obtain⟨s,a,c⟩:=h
 exact⟨s,a.keep k h1,c.keep k h2⟩
theorem zo.keep{st:St}(h:zo tag I r T M bs st)(k:qd R ro tag I tag' I')(hR:∀ x∈R,x%64≠r%64/\x≠6:=by simp):zo tag' I' r T M bs st:=
 ⟨h.keys,h.len,h.nd,h.cell.keep k fun m=>(hR _ m).1 rfl,h.map.keep k fun m=>(hR _ m).1 z6,fun i b p hb hp=>(h.nodes i b p hb hp).keep k (fun m=>(hR _ m).1 z6) fun m=>(hR _ m).2 rfl⟩
theorem vJ.keep{st:St}(h:vJ tag I r T st)(k:qd R ro tag I tag' I')(hR:∀ x∈R,x%64≠r%64/\x≠6:=by simp):vJ tag' I' r T st:=by
 obtain⟨M,bs,h⟩:=h
 exact⟨M,bs,h.keep k hR⟩
theorem ad6:∀ (st:St) (bs:List Nat) (u:Str),bs.length=st.length->
  (st.lookup u=none/\(kv st bs).lookup u=none)\/∃ (i b:Nat) (n:Nd),bs[i]?=some b/\st[i]?=some (u,n)/\st.lookup u=some n/\(kv st bs).lookup u=some (ptr b):=by
 intro st
 induction st with
 | nil=>intro bs u h;exact .inl ⟨rfl,by cases bs<;>rfl⟩
 | cons p st ih=>
  intro bs u h
  cases bs with
  | nil=>simp at h
  | cons b bs=>
   obtain⟨p,n⟩:=p
   simp only[mA,Nat.add_right_cancel_iff]at h
   unfold kv
   rw[nA,nA]
   by_cases c:u=p
   .subst c
    rw[show(u == u)=true by simp]
    exact .inr ⟨0,b,n,rfl,rfl,rfl,rfl⟩
   .rw[show(u == p)=false by simpa using c]
    rcases ih bs u h with h' | ⟨i,b',n',h1,h2,h3,h4⟩
    .exact .inl h'
    .exact .inr ⟨i+1,b',n',j1 h1,j1 h2,h3,h4⟩
def xo(st:St)(u:Str)(f:Nd->Nd):St:=st.map fun p=>if p.1=u then(p.1,f p.2)else p
theorem alY{st:St}(hk:(st.map (·.1)).Nodup){n:Nd}(h:st[i]?=some (u,n))(f:Nd->Nd):xo st u f=st.set i (u,f n):=by
 unfold xo
 apply Ld
 intro j
 rw[mq,Lx]
 have hil:i<st.length:=by
  rcases mB i st.length with h' | h'
  .exact h'
  .rw[mw h']at h;cases h
 by_cases c:i=j
 .subst c;rw[me rfl,me hil,h];simp
 .rw[mc c]
  cases e:st[j]? with
  | none=>rfl
  | some p=>
   have hne:p.1≠u:=by
    intro hp
    apply c
    have hjl:j<st.length:=by
     rcases mB j st.length with h' | h'
     .exact h'
     .rw[mw h']at e;cases e
    refine(List.getElem_inj (h₀:=by simpa using hil) (h₁:=by simpa using hjl) hk).1 ?_
    rw[mh hil]at h
    rw[mh hjl]at e
    simp only[List.getElem_map]
    rw[mQ h,mQ e,hp]
   simp[hne]
theorem asm:∀ (st:St) (bs:List Nat) (i:Nat) (u:Str) (n n':Nd),st[i]?=some (u,n)->kv (st.set i (u,n')) bs=kv st bs:=by
 intro st
 induction st with
 | nil=>intro bs i u n n' h;cases h
 | cons p st ih=>
  intro bs i u n n' h
  cases bs with
  | nil=>cases i<;>simp[kv]
  | cons b bs=>
   cases i with
   | zero=>cases h;rfl
   | succ i=>simp only[List.set_cons_succ];unfold kv;rw[ih bs i u n n' (j1 h)]
theorem aqj{st:St}{n n':Nd}(h:st[i]?=some (u,n)):(st.set i (u,n')).map (·.1)=st.map (·.1):=by
 rw[List.map_set]
 apply Ld
 intro j
 rw[Lx,mq]
 by_cases c:i=j
 .subst c;rw[h];simp
  rcases mB i st.length with h' | h'
  .exact h'
  .rw[mw h']at h;cases h
 .rw[mc c]
theorem am2{α:Type}{l:List α}(hn:l.Nodup){j:Nat}{x:α}(hi:l[i]?=some x)(hj:l[j]?=some x):i=j:=by
 have hil:i<l.length:=by
  rcases mB i l.length with h' | h'
  .exact h'
  .rw[mw h']at hi;cases hi
 have hjl:j<l.length:=by
  rcases mB j l.length with h' | h'
  .exact h'
  .rw[mw h']at hj;cases hj
 rw[mh hil]at hi
 rw[mh hjl]at hj
 exact(List.getElem_inj hn).1 (by rw[mQ hi,mQ hj])
theorem zo.write{st:St}{n n':Nd}(h:zo tag I r T M bs st)(hr:r<64)(hr6:r≠6)(hb:bs[i]?=some b)(hp:st[i]?=some (u,n))(k:qd [r+64*(b+2)] ro tag I tag' I')(hnew:acd tag' I' r b n'):zo tag' I' r T M bs (st.set i (u,n')):=by
 refine⟨by rw[aqj hp];exact h.keys,j1 h.len,h.nd,h.cell.keep k,?_,fun j c p hc hp'=>?_⟩
 .rw[asm _ _ _ _ _ _ hp];exact h.map.keep k y6
 .rw[Lx]at hp'
  by_cases e:i=j
  .subst e
   rw[hb]at hc;cases hc
   rw[me rfl]at hp'
   split at hp'
   .cases hp';exact hnew
   .cases hp'
  .rw[mc e]at hp'
   refine(h.nodes j c p hc hp').keep k ?_ ?_
   .simp
    intro h'
    have:b=c:=by omega
    subst this
    exact e (am2 h.nd hb hc)
   .simp;omega
theorem u126:prog.underlying 237=some (.map 9 164):=y0
theorem u9:prog.underlying 9=some .string:=y0
theorem u30:prog.underlying 24=some (.slice 5):=y0
theorem ajB:ql prog 164 (.pointer none) 1 8:=ql.of y0
theorem clone_ok{l:List Value}{Q:Sl->AH->Prop}(h:SL.qU ro I s l)(hs:SL.Sep ro I)(hl:l.length<=140737488355328)(hv:∀ v∈l,qk v=true)(hQ:∀ s' tag' I',(∀R,qd R ro tag I tag' I')->Row tag' I' 6 5 s' l->Q s' I'):xY B ro s I Q:=by
 refine akf fun _=>?_
 unfold aen
 by_cases h0:s.a=none
 .rw[me h0]
  rw[h.2.1 h0]at hQ
  exact hQ _ tag I (fun _=>qd.refl hs) (Row.nil 6 5)
 .rw[mc h0]
  refine qr (tag:=tag) 6 hs fun b tag1 I1 st1 r1=>?_
  have h':SL.qU ro I1 s l:=h.step (st1 [])
  refine aaI r1 (st1 []).sep h' u30 ty5 rfl hv y6 z8 fun s' tag2 I2 st2 r2=>?_
  exact⟨s',rfl,hQ s' tag2 I2 (fun R=>(st1 R).trans (st2 R (.inl rfl))) r2⟩
def St.new:St:=[([47],⟨0,0,0,0,[]⟩)]
theorem asn{Q:Option Addr->AH->Prop}(r:Nat)(hr:r<64)(hr6:r≠6)(hQ:∀ T tag' I',vf r ro tag I tag' I'->vJ tag' I' r T St.new->Q (some ⟨T,0,none⟩) I'):af4 B ro I Q:=by
 refine alX fun hs=>?_
 unfold af8
 refine aoH (tag:=tag) (r+64) hs fun M tag1 I1 st1 m1=>?_
 refine afJ (tag:=tag1) (fun b=>r+64*(b+2)) (st1 []).sep fun b tag2 I2 _ _ st2 r2=>?_
 have m2:=m1.keep (st2 [])
 refine abL (k:=[47]) m2 (st2 []).sep u126 u9 fun I3 st3 m3=>?_
 have r3:=r2.keep st3 y6
 refine qr (tag:=tag2) r st3.sep fun T tag4 I4 st4 r4=>?_
 have st:vf r ro tag I tag4 I4:=((st1 []).c z7).trans (((st2 []).c z7).trans ((st3.c y6).trans ((st4 []).c z7)))
 refine hQ T tag4 I4 st ⟨M,[b],by simp[St.new],rfl,z7,r4,m3.keep (st4 []),fun i c p hc hp=>?_⟩
 rcases i with _ | i
 .cases hc;cases hp
  exact⟨⟨none,0,0⟩,r3.keep (st4 []),Row.nil 6 5⟩
 .cases hc
theorem am3{st:St}{Q:Option Addr->Int->AH->Prop}(g:xC ro)(h:zo tag I r T M bs st)(hs:SL.Sep ro I)(hbad:parts (L p)=none->Q none 20 I)
  (hmiss:∀ ps,parts (L p)=some ps->st.lookup (L p)=none->Q none 70 I) (hhit:∀ (ps:List Str) (i b:Nat) (n:Nd),parts (L p)=some ps->bs[i]?=some b->st[i]?=some (L p,n)->st.lookup (L p)=some n->Q (some ⟨b,0,none⟩) 0 I):
  abU B ro (some ⟨T,0,none⟩) p I Q:=by
 refine ahP fun _=>?_
 unfold abX
 refine afl g ?_
 by_cases h1:Pa.chk (L p)=0
 .rw[mc (j1 h1)]
  obtain⟨ps,hps⟩:=uc.1 h1
  refine⟨_,rfl,_,Row.cell1 h.cell hs,?_⟩
  rw[<-S_L p]
  refine uw h.map hs u126 u9 ajB ?_
  rcases ad6 st bs (L p) h.len with⟨a,e⟩ | ⟨i,b,n,a1,a2,a3,e⟩
  .rw[e]
   exact⟨none,rfl,by rw[me rfl];exact hmiss ps hps a⟩
  .rw[e]
   exact⟨some ⟨b,0,none⟩,rfl,by rw[mc z7];exact hhit ps i b n hps a1 a2 a3⟩
 .rw[me (j1 h1)]
  have e:parts (L p)=none:=by
   cases h:parts (L p)with
   | none=>rfl
   | some ps=>exact mC (uc.2 ⟨ps,h⟩) h1
  have:Pa.chk (L p)=20:=by unfold Pa.chk;rw[e];try rfl
  rw[this];exact hbad e
def an3(n:Nd):Nd:={n with ctr:=i64.wrap (n.ctr+1),kids:=i64.wrap (n.kids+1)}
def aaE(st:St)(p data:Str)(o:Int)(seq:Bool):St×Str×Int:=
 match ws p with
 | none=>(st,[],20)
 | some u=>
  if 256<data.length then(st,[],75)
  else if o<0\/4611686018427387903<o then(st,[],10)
  else match st.lookup u with
   | none=>(st,[],70)
   | some n=>
    if n.own≠0 then(st,[],74)
    else if 9999999999<n.ctr then(st,[],76)
    else match(if seq then ac8 p n.ctr else some p)with
     | none=>(st,[],20)
     | some q=>if(st.lookup q).isSome then(st,[],71)else(xo (st++[(q,⟨0,0,o,0,data⟩)]) u an3,q,0)
theorem aoP:∀ (st:St) (bs:List Nat) (q:Str) (n:Nd) (b:Nat),bs.length=st.length->kv (st++[(q,n)]) (bs++[b])=kv st bs++[(q,ptr b)]:=by
 intro st
 induction st with
 | nil=>intro bs q n b h;have:bs=[]:=mG h;subst this;rfl
 | cons p st ih=>
  intro bs q n b h
  cases bs with
  | nil=>simp at h
  | cons c bs=>
   obtain⟨p,m⟩:=p
   simp only[nq]
   unfold kv
   rw[ih bs q n b (j1 h)];try rfl
theorem am4:∀ (st:St) (bs:List Nat) (q:Str) (b:Nat),bs.length=st.length->st.lookup q=none->ae5 (kv st bs) q (ptr b)=kv st bs++[(q,ptr b)]:=by
 intro st
 induction st with
 | nil=>intro bs q b h _;cases bs<;>rfl
 | cons p st ih=>
  intro bs q b h hl
  cases bs with
  | nil=>simp at h
  | cons c bs=>
   obtain⟨p,m⟩:=p
   rw[nA]at hl
   by_cases e:q=p
   .subst e;simp at hl
   .rw[show(q == p)=false by simpa using e]at hl
    unfold kv ae5
    rw[mc e,ih bs q b (j1 h) hl];try rfl
theorem aiG{st:St}(h:st.lookup q=none):q∉st.map (·.1):=by
 intro hm
 obtain⟨p,hp,e⟩:=my.1 hm
 rw[List.lookup_eq_none_iff]at h
 have:=h p hp
 simp at this
 exact this e.symm
theorem zo.add{st:St}{n:Nd}{tag2:Nat->Nat}{I2:AH}(h:zo tag I r T M bs st)(hr:r<64)(hr6:r≠6)(hq:st.lookup q=none)(hb:I b=none)(k:qd [r+64] ro tag I tag2 I2)(hnew:acd tag2 I2 r b n)(hm:xw tag2 I2 (r+64) M (ae5 (kv st bs) q (ptr b))):zo tag2 I2 r T M (bs++[b]) (st++[(q,n)]):=by
 have hnb:b∉bs:=fun hm'=>by
  obtain⟨i,hi,e⟩:=nv hm'
  have hb':bs[i]?=some b:=by rw[mh hi,e]
  have hil:i<st.length:=by rw[<-h.len];exact hi
  obtain⟨s,hn,_⟩:=h.nodes i b _ hb' (mh hil)
  obtain⟨_,o,ho⟩:=hn.tagOf
  rw[hb]at ho;cases ho
 refine⟨?_,by simp[h.len],?_,h.cell.keep k,?_,fun i c p hc hp=>?_⟩
 .rw[mJ,List.nodup_append]
  refine⟨h.keys,z7,?_⟩
  intro x hx y hy
  simp at hy
  intro e
  exact aiG hq (by rw[<-hy,<-e];exact hx)
 .rw[List.nodup_append]
  refine⟨h.nd,z7,?_⟩
  intro x hx y hy
  simp at hy
  intro e
  exact hnb (by rw[<-hy,<-e];exact hx)
 .rw[aoP _ _ _ _ _ h.len,<-am4 _ _ _ _ h.len hq];exact hm
 .rcases mB i bs.length with hi | hi
  .rw[mM hi]at hc
   rw[mM (by rw[<-h.len];exact hi)]at hp
   exact(h.nodes i c p hc hp).keep k y6 z7
  .rw[mW hi]at hc
   rw[mW (by rw[<-h.len];exact hi),<-h.len]at hp
   cases hd:i - bs.length with
   | zero=>
    rw[hd]at hc hp
    cases hc;cases hp
    exact hnew
   | succ j=>rw[hd]at hc;cases hc
theorem ary{n:Nd}(st:St){m:Nd}(h:st[i]?=some (u,m)):(st++[(q,n)])[i]?=some (u,m):=by
 have hil:i<st.length:=by
  rcases mB i st.length with h' | h'
  .exact h'
  .rw[mw h']at h;cases h
 rw[mM hil];exact h
theorem arz{c:Nat}(h:bs[i]?=some b):(bs++[c])[i]?=some b:=by
 have hil:i<bs.length:=by
  rcases mB i bs.length with h' | h'
  .exact h'
  .rw[mw h']at h;cases h
 rw[mM hil];exact h
theorem aoQ{st:St}{o:Int}{seq:Bool}{Q:ByteArray->Int->AH->Prop}(g:xC ro)(hr:r<64)(hr6:r≠6)(hr0:r≠0)(h:vJ tag I r T st)(hd:SL.qU ro I s (d.map vU))(hdl:d.length<4611686018427387904)
  (hQ:∀ tag' I',vf r ro tag I tag' I'->vJ tag' I' r T (aaE st (L p) d o seq).1->Q (S (aaE st (L p) d o seq).2.1) (aaE st (L p) d o seq).2.2 I'):aaM B ro (some ⟨T,0,none⟩) p s o seq I Q:=by
 refine agR fun hs=>?_
 unfold aaR
 have hsl:s.len=d.length:=by rw[hd.1,ml]
 have same:∀ e:Int,aaE st (L p) d o seq=(st,[],e)->Q (⟨#[]⟩:ByteArray) e I:=fun e he=>by
  have:=hQ tag I (vf.refl hs) (by rw[he];exact h)
  rw[he]at this;exact this
 refine akQ g (fun hp=>?_) (fun u hu=>?_)
 .rw[me z8]
  exact same 20 (by unfold aaE;rw[hp])
 .rw[mc z8]
  by_cases h1:256<(s.len:Int)
  .rw[me h1]
   exact same 75 (by unfold aaE;rw[hu];simp only;rw[me z6])
  .rw[mc h1]
   have h1':¬ 256<d.length:=by omega
   by_cases h2:o<0\/4611686018427387903<o
   .rw[me h2]
    exact same 10 (by unfold aaE;rw[hu];simp only;rw[mc h1',me h2])
   .rw[mc h2]
    obtain⟨M,bs,hA⟩:=h
    refine⟨_,rfl,_,Row.cell1 hA.cell hs,?_⟩
    refine uw hA.map hs u126 u9 ajB ?_
    rcases ad6 st bs u hA.len with⟨a,e⟩ | ⟨i,b,n,a1,a2,a3,e⟩
    .rw[e]
     refine⟨none,rfl,?_⟩
     rw[me rfl]
     exact same 70 (by unfold aaE;rw[hu];simp only;rw[mc h1',mc h2,a])
    .rw[e]
     refine⟨some ⟨b,0,none⟩,rfl,?_⟩
     rw[mc z7]
     obtain⟨ds,hn,hdat⟩:=hA.nodes i b _ a1 a2
     obtain⟨q,hq,hg⟩:=hn.ptr hs z7
     cases hq
     refine⟨_,rfl,n.own,hg 2 _ rfl,?_⟩
     by_cases h3:n.own=0
     .rw[mc (by simp[h3])]
      refine⟨_,rfl,n.ctr,hg 1 _ rfl,?_⟩
      by_cases h4:9999999999<n.ctr
      .rw[me h4]
       exact same 76 (by unfold aaE;rw[hu];simp only;rw[mc h1',mc h2,a3];simp only;rw[mc (by simp[h3]),me h4])
      .rw[mc h4]
       have hcr:aaE st (L p) d o seq=match(if seq then ac8 (L p) n.ctr else some (L p))with
         | none=>(st,[],20)
         | some q=>if(st.lookup q).isSome then(st,[],71)else(xo (st++[(q,⟨0,0,o,0,d⟩)]) u an3,q,0):=by
        unfold aaE;rw[hu];simp only;rw[mc h1',mc h2,a3];simp only;rw[mc (by simp[h3]),mc h4];try rfl
       have main:∀ q:Str,(if seq then ac8 (L p) n.ctr else some (L p))=some q->vy B ro (some ⟨T,0,none⟩) s o (some ⟨b,0,none⟩) Q (S q) I:=by
        intro q hq
        rw[hq]at hcr
        simp only at hcr
        unfold vy
        refine⟨_,rfl,_,Row.cell1 hA.cell hs,?_⟩
        refine uw hA.map hs u126 u9 ajB ?_
        rcases ad6 st bs q hA.len with⟨c,e2⟩ | ⟨i2,b2,n2,c1,c2,c3,e2⟩
        .rw[e2]
         refine⟨none,rfl,?_⟩
         rw[mc z7]
         rw[c]at hcr
         simp only[Option.isSome_none,Bool.false_eq_true,if_false]at hcr
         refine aeL T ?_
         obtain⟨hT0,hTo⟩:=hA.cell.tagOf
         have hs1:SL.Sep (join ro (SL.one I T)) (SL.del I T):=hs.lent
         refine⟨_,rfl,some M,hA.cell.lend hs (i:=0) rfl,?_⟩
         refine clone_ok (tag:=tag) (hd.lent T) hs1 y6 (by simp[qk]) fun s' tag1 I1 st1 r1=>?_
         refine afJ (tag:=tag1) (fun b=>r+64*(b+2)) (st1 []).sep fun c' tag2 I2 hro2 hc2 st2 r2=>?_
         have hM1:=((hA.map.del (by rw[hT0];omega)).keep (st1 [])).keep (st2 [])
         refine abL hM1 (st2 []).sep u126 u9 fun I3 st3 m3=>?_
         intro hdj
         have stA:qd [r+64] (join ro (SL.one I T)) tag (SL.del I T) tag2 I3:=(st1 _).trans ((st2 _).trans st3)
         have stB:=stA.back hs hdj hTo
         have m4:=m3.back (r':=tag T) hdj hTo
         have hnode:acd (setTag tag2 T (tag T)) (join (SL.one I T) I3) r c' ⟨0,0,o,0,d⟩:=
          ⟨s',(r2.keep st3 y6).back hdj hTo,((r1.keep (st2 [])).keep st3).back hdj hTo⟩
         have hfree:I c'=none:=by
          cases hcc:I c' with
          | none=>rfl
          | some x=>
           have hne:c'≠T:=fun e=>by
            have:=(jD hro2).2
            unfold SL.one at this
            rw[me e,hcc]at this;cases this
           obtain⟨_,x',hx'⟩:=(st1 []).old c' x (by unfold SL.del;rw[mc hne];exact hcc)
           rw[hc2]at hx';cases hx'
         have hA2:=hA.add (n:=⟨0,0,o,0,d⟩) hr hr6 c hfree stB hnode m4
         have b1:=arz (c:=c') a1
         have b2:=ary (q:=q) (n:=⟨0,0,o,0,d⟩) st a2
         generalize setTag tag2 T (tag T)=tagx at*
         generalize join (SL.one I T) I3=Ix at*
         have hsx:=stB.sep
         obtain⟨d1,hn1,hd1⟩:=hA2.nodes i b _ b1 b2
         obtain⟨q1,hq1,hg1⟩:=hn1.ptr hsx z7
         cases hq1
         refine⟨_,rfl,n.ctr,hg1 1 _ rfl,_,rfl,?_⟩
         refine hn1.st (i:=1) hsx rfl z7 rfl fun I4 st4 r4=>?_
         have hA3:=hA2.write (n':={n with ctr:=i64.wrap (n.ctr+1)}) hr hr6 b1 b2 st4 ⟨d1,r4,hd1.keep st4 y6⟩
         have b3:((st++[(q,(⟨0,0,o,0,d⟩:Nd))]).set i (u,{n with ctr:=i64.wrap (n.ctr+1)}))[i]?=some (u,{n with ctr:=i64.wrap (n.ctr+1)}):=by
          rw[Lx,me rfl,me]
          rcases mB i (st++[(q,(⟨0,0,o,0,d⟩:Nd))]).length with h' | h'
          .exact h'
          .rw[mw h']at b2;cases b2
         obtain⟨q2,hq2,hg2⟩:=r4.ptr st4.sep z7
         cases hq2
         refine⟨_,rfl,n.kids,hg2 3 _ rfl,_,rfl,?_⟩
         refine r4.st (i:=3) st4.sep rfl z7 rfl fun I5 st5 r5=>?_
         have hA4:=hA3.write (n':=an3 n) hr hr6 b1 b3 st5 ⟨d1,r5,(hd1.keep st4 y6).keep st5 y6⟩
         rw[List.set_set]at hA4
         rw[<-alY hA2.keys b2 an3]at hA4
         have hres:=hQ tagx I5 ((stB.c y6).trans ((st4.c y6).trans (st5.c y6))) (by rw[hcr];exact⟨M,_,hA4⟩)
         rw[hcr]at hres
         exact hres
        .rw[e2]
         refine⟨some ⟨b2,0,none⟩,rfl,?_⟩
         rw[me z7]
         refine same 71 ?_
         rw[hcr,c3];try rfl
       by_cases h5:seq=true
       .rw[me h5]
        refine⟨_,rfl,n.ctr,hg 1 _ rfl,?_⟩
        refine aoO g (fun hnone=>?_) (fun q hq=>?_)
        .rw[me z8]
         refine same 20 ?_
         rw[hcr,me h5,hnone]
        .rw[mc z8]
         exact main q (by rw[me h5];exact hq)
       .rw[mc h5]
        have:=main (L p) (by rw[mc h5])
        rw[S_L]at this;exact this
     .rw[me (by simp[h3])]
      exact same 74 (by unfold aaE;rw[hu];simp only;rw[mc h1',mc h2,a3];simp only;rw[me (by simp[h3])])
theorem akS{p:Str}(h:ws p=some u):p≠u:=by
 unfold ws at h
 cases hp:parts p with
 | none=>rw[hp]at h;cases h
 | some ps=>
  rw[hp]at h
  simp only at h
  split at h
  .cases h
  .rename_i hn
   cases h
   obtain⟨hl,hg⟩:=xZ.1 hp
   intro e
   have:=asj hg hg.up (by rw[<-hl];exact e)
   have h1:=mi List.length this
   have h2:=nr.2 hn
   simp at h1;omega
end Zt
namespace Zt
open Go SL Pa
def kc(ks:List Str)(u:Str):Nat:=ks.countP fun k=>ws k=some u
theorem ajC(st:St)(u:Str)(f:Nd->Nd)(k:Str):(xo st u f).lookup k=if k=u then(st.lookup k).map f else st.lookup k:=by
 induction st with
 | nil=>simp[xo]
 | cons p st ih=>
  obtain⟨p,n⟩:=p
  unfold xo at ih⊢
  rw[nx]
  by_cases e:p=u
  .subst e
   simp only[if_true]
   rw[nA,nA,ih]
   by_cases c:k=p
   .subst c;simp
   .rw[show(k == p)=false by simpa using c]
  .simp only[e,if_false]
   rw[nA,nA,ih]
   by_cases c:k=p
   .subst c;simp[e]
   .rw[show(k == p)=false by simpa using c]
theorem an4(st:St)(q:Str)(n:Nd)(k:Str):(st++[(q,n)]).lookup k=match st.lookup k with | some m=>some m | none=>if k=q then some n else none:=by
 induction st with
 | nil=>
  rw[nZ,nA]
  by_cases c:k=q
  .subst c;simp
  .rw[show(k == q)=false by simpa using c];simp[c]
 | cons p st ih=>
  obtain⟨p,m⟩:=p
  rw[nq,nA,nA,ih]
  by_cases c:k=p
  .subst c;simp
  .rw[show(k == p)=false by simpa using c]
theorem aqk(st:St)(u:Str)(f:Nd->Nd):(xo st u f).map (·.1)=st.map (·.1):=by
 unfold xo;rw[Lj]
 refine List.map_congr_left fun p _=>?_
 simp only[Function.comp]
 split<;>rfl
structure Inv(st:St):Prop where
 keys:(st.map (·.1)).Nodup
 root:∃ n,st.lookup [47]=some n
 path:∀ k n,st.lookup k=some n->∃ ps,parts k=some ps
 up:∀ k n,st.lookup k=some n->k≠[47]->∃ u m,ws k=some u/\st.lookup u=some m/\m.own=0
 kids:∀ k n,st.lookup k=some n->n.kids=(kc (st.map (·.1)) k:Nat)
 ctr:∀ k n,st.lookup k=some n->n.kids<=n.ctr/\n.ctr<=10000000000
 data:∀ k n,st.lookup k=some n->n.data.length<=256
theorem aso{ks:List Str}{u:Str}(h:kc ks u≠0):∃ k∈ks,ws k=some u:=by
 have:0<kc ks u:=by omega
 unfold kc at this
 rw[List.countP_pos_iff]at this
 obtain⟨k,h1,h2⟩:=this
 exact⟨k,h1,j1 h2⟩
theorem amz:ws [47]=none:=rfl
theorem alZ{q u:Str}(h:ws q=some u):∃ ps,parts q=some ps:=by
 unfold ws at h
 cases hp:parts q with
 | none=>rw[hp]at h;cases h
 | some ps=>exact⟨ps,rfl⟩