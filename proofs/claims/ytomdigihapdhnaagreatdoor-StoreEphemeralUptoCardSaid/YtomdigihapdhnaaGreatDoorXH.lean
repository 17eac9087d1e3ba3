import Derived.Test.YtomdigihapdhnaaGreatDoorXG
set_option linter.all false
set_option maxRecDepth 99999
set_option maxHeartbeats 0
open Go.IntKind(i64)
open Go.Proofs.Tryz
namespace Go.Proofs.YtomdigihapdhnaaGreatDoor
namespace SL
open Go
variable{P:Program}{B:World}{ro I I':AH}{tag tag':Nat->Nat}{κ α:Type}[DecidableEq κ]{enc:κ->Value}
variable{b i:Nat}
abbrev afj(b:Nat):Value:= .pointer (some ⟨b,0,none⟩)
def kvP:List (κ×α)->List Nat->List (κ×Value)
 | (k,_)::m,b::bs=>(k,afj b)::kvP m bs
 | _,_=>[]
structure yq(enc:κ->Value)(At:Nat->κ->α->Prop)(tag:Nat->Nat)(I:AH)(r M:Nat)(bs:List Nat)(m:List (κ×α)):Prop where
 keys:(m.map (·.1)).Nodup
 len:bs.length=m.length
 nd:bs.Nodup
 map:zu enc tag I r M (kvP m bs)
 at':∀ (i b:Nat) (k:κ) (a:α),bs[i]?=some b->m[i]?=some (k,a)->At b k a
theorem alW:∀ (m:List (κ×α)) (bs:List Nat),bs.length=m.length->(kvP m bs).length=m.length:=by
 intro m
 induction m with
 | nil=>intro bs h;cases bs<;>rfl
 | cons p m ih=>
  intro bs h
  cases bs with
  | nil=>simp at h
  | cons b bs=>obtain⟨k,a⟩:=p;unfold kvP;simp[ih bs (j2 h)]
theorem apk:∀ (m:List (κ×α)) (bs:List Nat),bs.length=m.length->∀ (k:κ) (v:Value),(k,v)∈kvP m bs->∃ (i b:Nat) (a:α),bs[i]?=some b/\m[i]?=some (k,a)/\v=afj b:=by
 intro m
 induction m with
 | nil=>intro bs h k v hm;cases bs<;>cases hm
 | cons p m ih=>
  intro bs h k v hm
  cases bs with
  | nil=>simp at h
  | cons b bs=>
   obtain⟨pk,pa⟩:=p
   unfold kvP at hm
   rcases mq.1 hm with e | hm
   .cases e;exact⟨0,b,pa,rfl,rfl,rfl⟩
   .obtain⟨i,b',a,h1,h2,h3⟩:=ih bs (j2 h) k v hm
    exact⟨i+1,b',a,j2 h1,j2 h2,h3⟩
theorem asy:∀ (m:List (κ×α)) (bs:List Nat) (k:κ),bs.length=m.length->
  (qy m k=none/\qy (kvP m bs) k=none)\/∃ (i b:Nat) (a:α),bs[i]?=some b/\m[i]?=some (k,a)/\qy m k=some a/\qy (kvP m bs) k=some (afj b):=by
 intro m
 induction m with
 | nil=>intro bs k h;exact .inl ⟨rfl,by cases bs<;>rfl⟩
 | cons p m ih=>
  intro bs k h
  cases bs with
  | nil=>simp at h
  | cons b bs=>
   obtain⟨pk,pa⟩:=p
   unfold kvP qy
   by_cases c:k=pk
   .subst c
    exact .inr ⟨0,b,pa,rfl,rfl,z8,z8⟩
   .rw[ma c,ma c]
    rcases ih bs k (by simpa using h)with h' | ⟨i,b',a,h1,h2,h3,h4⟩
    .exact .inl h'
    .exact .inr ⟨i+1,b',a,j2 h1,j2 h2,h3,h4⟩
theorem yr:∀ {m:List (κ×α)} {k:κ} {a:α},qy m k=some a->(k,a)∈m:=by
 intro m
 induction m with
 | nil=>intro k a h;cases h
 | cons p m ih=>
  intro k a h
  obtain⟨pk,pa⟩:=p
  unfold qy at h
  split at h
  .rename_i e;subst e;cases h;simp
  .exact List.mem_cons_of_mem _ (ih h)
theorem kR:∀ {m:List (κ×α)} {k:κ},qy m k=none↔k∉m.map (·.1):=by
 intro m
 induction m with
 | nil=>intro k;simp[qy]
 | cons p m ih=>
  intro k
  obtain⟨pk,pa⟩:=p
  unfold qy
  by_cases c:k=pk
  .simp[c]
  .rw[ma c,ih];simp[c]
theorem ah1:∀ {m:List (κ×α)} {k:κ} {a:α},(m.map (·.1)).Nodup->(k,a)∈m->qy m k=some a:=by
 intro m
 induction m with
 | nil=>intro k a _ h;cases h
 | cons p m ih=>
  intro k a hn h
  obtain⟨pk,pa⟩:=p
  simp only[mF,nl]at hn
  unfold qy
  rcases mq.1 h with e | h
  .cases e;simp
  .have:k≠pk:=fun e=>hn.1 (by rw[<-e];exact mC.2 ⟨_,h,rfl⟩)
   rw[ma this];exact ih hn.2 h
theorem agb:∀ {m:List (κ×α)} {i:Nat} {k:κ} {a:α} (a':α),(m.map (·.1)).Nodup->m[i]?=some (k,a)->wR m k a'=m.set i (k,a'):=by
 intro m
 induction m with
 | nil=>intro i k a a' _ h;cases h
 | cons p m ih=>
  intro i k a a' hn h
  obtain⟨pk,pa⟩:=p
  simp only[mF,nl]at hn
  unfold wR
  cases i with
  | zero=>cases h;simp
  | succ i=>
   have hm:m[i]?=some (k,a):=by simpa using h
   have:k≠pk:=fun e=>hn.1 (by rw[<-e];exact mC.2 ⟨_,mU hm,rfl⟩)
   rw[ma this,ih a' hn.2 hm];try rfl
theorem akC:∀ {m:List (κ×α)} {k:κ} (a:α),qy m k=none->wR m k a=m++[(k,a)]:=by
 intro m
 induction m with
 | nil=>intro k a _;rfl
 | cons p m ih=>
  intro k a h
  obtain⟨pk,pa⟩:=p
  unfold qy at h
  unfold wR
  split at h
  .cases h
  .rename_i c
   rw[ma c,ih a h];try rfl
theorem alf:∀ {m:List (κ×α)} {i:Nat} {k:κ} {a:α},(m.map (·.1)).Nodup->m[i]?=some (k,a)->ji m k=m.eraseIdx i:=by
 intro m
 induction m with
 | nil=>intro i k a _ h;cases h
 | cons p m ih=>
  intro i k a hn h
  obtain⟨pk,pa⟩:=p
  simp only[mF,nl]at hn
  unfold ji
  cases i with
  | zero=>cases h;simp
  | succ i=>
   have hm:m[i]?=some (k,a):=by simpa using h
   have:k≠pk:=fun e=>hn.1 (by rw[<-e];exact mC.2 ⟨_,mU hm,rfl⟩)
   rw[ma this,ih hn.2 hm];try rfl
theorem amD:∀ {m:List (κ×α)} {k:κ},qy m k=none->ji m k=m:=by
 intro m
 induction m with
 | nil=>intro k _;rfl
 | cons p m ih=>
  intro k h
  obtain⟨pk,pa⟩:=p
  unfold qy at h
  unfold ji
  split at h
  .cases h
  .rename_i c
   rw[ma c,ih h]
theorem alX:∀ (m:List (κ×α)) (bs:List Nat) (i:Nat) (k:κ) (a a':α),m[i]?=some (k,a)->kvP (m.set i (k,a')) bs=kvP m bs:=by
 intro m
 induction m with
 | nil=>intro bs i k a a' h;cases h
 | cons p m ih=>
  intro bs i k a a' h
  cases bs with
  | nil=>cases i<;>simp[kvP]
  | cons b bs=>
   cases i with
   | zero=>cases h;rfl
   | succ i=>simp only[List.set_cons_succ];unfold kvP;rw[ih bs i k a a' (j2 h)]
theorem aue:∀ (m:List (κ×α)) (bs:List Nat) (k:κ) (a:α) (b:Nat),bs.length=m.length->kvP (m++[(k,a)]) (bs++[b])=kvP m bs++[(k,afj b)]:=by
 intro m
 induction m with
 | nil=>intro bs k a b h;have:bs=[]:=mO h;subst this;rfl
 | cons p m ih=>
  intro bs k a b h
  cases bs with
  | nil=>simp at h
  | cons c bs=>
   obtain⟨pk,pa⟩:=p
   simp only[nb]
   unfold kvP
   rw[ih bs k a b (j2 h)];try rfl
theorem aq8:∀ (m:List (κ×α)) (bs:List Nat) (i:Nat),bs.length=m.length->kvP (m.eraseIdx i) (bs.eraseIdx i)=(kvP m bs).eraseIdx i:=by
 intro m
 induction m with
 | nil=>intro bs i h;have:bs=[]:=mO h;subst this;simp[kvP]
 | cons p m ih=>
  intro bs i h
  cases bs with
  | nil=>simp at h
  | cons c bs=>
   obtain⟨pk,pa⟩:=p
   cases i with
   | zero=>simp[kvP]
   | succ i=>simp only[List.eraseIdx_cons_succ];unfold kvP;rw[ih bs i (j2 h)];simp
theorem abS:∀ (m:List (κ×α)) (bs:List Nat),bs.length=m.length->(kvP m bs).map (·.1)=m.map (·.1):=by
 intro m
 induction m with
 | nil=>intro bs h;cases bs<;>rfl
 | cons p m ih=>
  intro bs h
  cases bs with
  | nil=>simp at h
  | cons c bs=>obtain⟨pk,pa⟩:=p;unfold kvP;simp[ih bs (j2 h)]
theorem adg{β:Type}{l:List β}(hn:l.Nodup){j:Nat}{x:β}(hi:l[i]?=some x)(hj:l[j]?=some x):i=j:=by
 have hil:i<l.length:=(List.getElem?_eq_some_iff.1 hi).1
 have hjl:j<l.length:=(List.getElem?_eq_some_iff.1 hj).1
 rw[md hil]at hi
 rw[md hjl]at hj
 exact(List.getElem_inj hn).1 (by rw[mA hi,mA hj])
variable{At At':Nat->κ->α->Prop}{r M:Nat}{bs:List Nat}{m:List (κ×α)}
theorem yq.nil(h:zu enc tag I r M []):yq enc At tag I r M [] ([]:List (κ×α)):=⟨z8,rfl,z8,h,fun i b k a hb=>by cases hb⟩
theorem yq.mono(h:yq enc At tag I r M bs m)(hm:zu enc tag' I' r M (kvP m bs))(ha:∀ (i b:Nat) (k:κ) (a:α),bs[i]?=some b->m[i]?=some (k,a)->At b k a->At' b k a):yq enc At' tag' I' r M bs m:=
 ⟨h.keys,h.len,h.nd,hm,fun i b k a hb hp=>ha i b k a hb hp (h.at' i b k a hb hp)⟩
theorem yq.look(h:yq enc At tag I r M bs m)(k:κ):(qy m k=none/\qy (kvP m bs) k=none)\/∃ (i b:Nat) (a:α),bs[i]?=some b/\m[i]?=some (k,a)/\qy m k=some a/\qy (kvP m bs) k=some (afj b)/\At b k a:=by
 rcases asy m bs k h.len with h' | ⟨i,b,a,h1,h2,h3,h4⟩
 .exact .inl h'
 .exact .inr ⟨i,b,a,h1,h2,h3,h4,h.at' i b k a h1 h2⟩
theorem yq.write{k:κ}{a a':α}(h:yq enc At tag I r M bs m)(hb:bs[i]?=some b)(hp:m[i]?=some (k,a))(hm:zu enc tag' I' r M (kvP m bs))(hn:At' b k a')(ho:∀ b' k' x,b'≠b->k'≠k->At b' k' x->At' b' k' x):yq enc At' tag' I' r M bs (wR m k a'):=by
 rw[agb a' h.keys hp]
 have hil:i<m.length:=(List.getElem?_eq_some_iff.1 hp).1
 refine⟨?_,j2 h.len,h.nd,by rw[alX _ _ _ _ _ _ hp];exact hm,fun j c k' x hc hx=>?_⟩
 .have:(m.set i (k,a')).map (·.1)=m.map (·.1):=by
   apply nA
   intro j
   rw[List.map_set,nH,mg]
   by_cases e:i=j
   .subst e;rw[hp];simp[hil]
   .rw[ma e]
  rw[this];exact h.keys
 .rw[nH]at hx
  by_cases e:i=j
  .subst e
   rw[hb]at hc;cases hc
   rw[mc rfl,mc hil]at hx
   cases hx;exact hn
  .rw[ma e]at hx
   refine ho c k' x (fun e'=>e (adg h.nd hb (by rw[<-e'];exact hc))) (fun e'=>e ?_) (h.at' j c k' x hc hx)
   refine adg h.keys (i:=i) (j:=j) (x:=k) ?_ ?_
   .rw[mg,hp];try rfl
   .rw[mg,hx,<-e'];try rfl
theorem yq.add{k:κ}{a:α}(h:yq enc At tag I r M bs m)(hk:qy m k=none)(hm:zu enc tag' I' r M (wR (kvP m bs) k (afj b)))(hnb:b∉bs)(hn:At' b k a)(ho:∀ (i b':Nat) k' x,bs[i]?=some b'->m[i]?=some (k',x)->At b' k' x->At' b' k' x):yq enc At' tag' I' r M (bs++[b]) (wR m k a):=by
 have hk2:qy (kvP m bs) k=none:=by rw[kR,abS _ _ h.len,<-kR];exact hk
 rw[akC _ hk2]at hm
 rw[akC a hk]
 refine⟨?_,by simp[h.len],?_,by rw[aue _ _ _ _ _ h.len];exact hm,fun i c k' x hc hx=>?_⟩
 .rw[mB,List.nodup_append]
  refine⟨h.keys,z8,?_⟩
  intro x hx y hy e
  simp at hy
  rw[kR]at hk
  exact hk (by rw[<-hy,<-e];exact hx)
 .rw[List.nodup_append]
  refine⟨h.nd,z8,?_⟩
  intro x hx y hy e
  simp at hy
  exact hnb (by rw[<-hy,<-e];exact hx)
 .rcases mL i bs.length with hi | hi
  .rw[mM hi]at hc
   rw[mM (by rw[<-h.len];exact hi)]at hx
   exact ho i c k' x hc hx (h.at' i c k' x hc hx)
  .rw[mQ hi]at hc
   rw[mQ (by rw[<-h.len];exact hi),<-h.len]at hx
   cases hd:i - bs.length with
   | zero=>rw[hd]at hc hx;cases hc;cases hx;exact hn
   | succ j=>rw[hd]at hc;cases hc
theorem yq.del{k:κ}{a:α}(h:yq enc At tag I r M bs m)(hb:bs[i]?=some b)(hp:m[i]?=some (k,a))(hm:zu enc tag' I' r M (ji (kvP m bs) k))(ho:∀ b' k' x,At b' k' x->At' b' k' x):yq enc At' tag' I' r M (bs.eraseIdx i) (ji m k):=by
 have hnk:((kvP m bs).map (·.1)).Nodup:=by rw[abS _ _ h.len];exact h.keys
 have hil:i<m.length:=(List.getElem?_eq_some_iff.1 hp).1
 have hkv:∃ v,(kvP m bs)[i]?=some (k,v):=by
  have e:=abS m bs h.len
  have h1:((kvP m bs).map (·.1))[i]?=(m.map (·.1))[i]?:=by rw[e]
  rw[mg,mg,hp]at h1
  cases hq:(kvP m bs)[i]? with
  | none=>rw[hq]at h1;cases h1
  | some q=>obtain⟨q1,q2⟩:=q;rw[hq]at h1;cases h1;exact⟨q2,rfl⟩
 obtain⟨v,hkv⟩:=hkv
 rw[alf hnk hkv]at hm
 rw[alf h.keys hp]
 refine⟨?_,?_,List.Nodup.sublist (List.eraseIdx_sublist ..) h.nd,by rw[aq8 _ _ _ h.len];exact hm,fun j c k' x hc hx=>?_⟩
 .exact List.Nodup.sublist ((List.eraseIdx_sublist ..).map _) h.keys
 .rw[List.length_eraseIdx,List.length_eraseIdx,h.len]
 .rw[List.getElem?_eraseIdx]at hc hx
  split at hc
  .rename_i hj;rw[mc hj]at hx;exact ho _ _ _ (h.at' j c k' x hc hx)
  .rename_i hj;rw[ma hj]at hx;exact ho _ _ _ (h.at' (j+1) c k' x hc hx)
end SL
namespace Zt
open Go SL Pa
variable{o v:Int}{ks:List Str}{n:Nd}{st:St}{d k p q u:Str}
def kc(ks:List Str)(u:Str):Nat:=ks.countP fun k=>qv k=some u
theorem zx(st:St)(u:Str)(f:Nd->Nd)(k:Str):(wv st u f).lookup k=if k=u then(st.lookup k).map f else st.lookup k:=by
 induction st with
 | nil=>simp[wv]
 | cons p st ih=>
  obtain⟨p,n⟩:=p
  unfold wv at ih⊢
  rw[mF]
  by_cases e:p=u
  .subst e
   simp only[if_true]
   rw[mY,mY,ih]
   by_cases c:k=p
   .subst c;simp
   .rw[show(k == p)=false by simpa using c]
  .simp only[e,if_false]
   rw[mY,mY,ih]
   by_cases c:k=p
   .subst c;simp[e]
   .rw[show(k == p)=false by simpa using c]
theorem aaT(st:St)(q:Str)(n:Nd)(k:Str):(st++[(q,n)]).lookup k=match st.lookup k with | some m=>some m | none=>if k=q then some n else none:=by
 induction st with
 | nil=>
  rw[nx,mY]
  by_cases c:k=q
  .subst c;simp
  .rw[show(k == q)=false by simpa using c];simp[c]
 | cons p st ih=>
  obtain⟨p,m⟩:=p
  rw[nb,mY,mY,ih]
  by_cases c:k=p
  .subst c;simp
  .rw[show(k == p)=false by simpa using c]
theorem ajb(h:k∉st.map (·.1)):st.lookup k=none:=by
 rw[List.lookup_eq_none_iff]
 intro p hp
 simp
 intro e
 exact h (mC.2 ⟨p,hp,e.symm⟩)
theorem yh(hk:(st.map (·.1)).Nodup)(q k:Str):(jh st q).lookup k=if k=q then none else st.lookup k:=by
 induction st with
 | nil=>simp[jh]
 | cons p st ih=>
  obtain⟨p,n⟩:=p
  rw[mF,nl]at hk
  unfold jh
  by_cases e:q=p
  .subst e
   rw[mc rfl]
   by_cases c:k=q
   .subst c;rw[mc rfl];exact ajb hk.1
   .rw[ma c,mY,show(k == q)=false by simpa using c]
  .rw[ma e,mY,mY,ih hk.2]
   by_cases c:k=p
   .subst c;simp[show¬k=q from fun h=>e h.symm]
   .rw[show(k == p)=false by simpa using c]
theorem xA(st:St)(u:Str)(f:Nd->Nd):(wv st u f).map (·.1)=st.map (·.1):=by
 unfold wv;rw[nP]
 refine List.map_congr_left fun p _=>?_
 simp only[Function.comp]
 split<;>rfl
theorem anQ(h:st.lookup q=some n):∃ a b,st.map (·.1)=a++q::b/\(jh st q).map (·.1)=a++b:=by
 induction st with
 | nil=>cases h
 | cons p st ih=>
  obtain⟨p,m⟩:=p
  unfold jh
  by_cases e:q=p
  .subst e;exact⟨[],st.map (·.1),rfl,by rw[mc rfl];try rfl⟩
  .rw[mY,show(q == p)=false by simpa using e]at h
   obtain⟨a,b,h1,h2⟩:=ih h
   exact⟨p::a,b,by rw[mF,h1];try rfl,by rw[ma e,mF,h2];try rfl⟩
theorem aeV(h:k∈st.map (·.1)):∃ n,st.lookup k=some n:=by
 cases e:st.lookup k with
 | some n=>exact⟨n,rfl⟩
 | none=>exact mu h (acL e)
theorem ajc(h:st.lookup k=some n):k∈st.map (·.1):=nv fun hn=>by
 rw[ajb hn]at h;cases h
structure Inv(st:St):Prop where
 keys:(st.map (·.1)).Nodup
 root:∃ n,st.lookup [47]=some n
 path:∀ k n,st.lookup k=some n->∃ ps,parts k=some ps
 up:∀ k n,st.lookup k=some n->k≠[47]->∃ u m,qv k=some u/\st.lookup u=some m/\m.own=0
 kids:∀ k n,st.lookup k=some n->n.kids=(kc (st.map (·.1)) k:Nat)
 ctr:∀ k n,st.lookup k=some n->n.kids<=n.ctr/\n.ctr<=10000000000
 data:∀ k n,st.lookup k=some n->n.data.length<=256
theorem auf:Inv St.new:=by
 have hl:∀ k n,St.new.lookup k=some n->k=[47]/\n=⟨0,0,0,0,[]⟩:=fun k n h=>by
  unfold St.new at h
  rw[mY]at h
  by_cases c:k=[47]
  .subst c;simp at h;exact⟨rfl,h.symm⟩
  .rw[show(k == [47])=false by simpa using c]at h;cases h
 refine⟨by simp[St.new],⟨_,rfl⟩,fun k n h=>?_,fun k n h hne=>mu (hl k n h).1 hne,fun k n h=>?_,fun k n h=>?_,fun k n h=>?_⟩
 .rw[(hl k n h).1];exact⟨[],rfl⟩
 .obtain⟨rfl,rfl⟩:=hl k n h
  decide
 .rw[(hl k n h).2];decide
 .rw[(hl k n h).2];decide
theorem aug(k n:Nat):∀ c∈aep k n,c≠47:=by
 induction k generalizing n with
 | zero=>intro c h;cases h
 | succ k ih=>
  intro c h
  rw[aep]at h
  rcases mt.1 h with h | h
  .exact ih _ c h
  .rw[mo]at h
   intro e
   have h1:=mh UInt8.toNat (h.symm.trans e)
   have:n%10<10:=LJ _ z7
   simp at h1
   omega
theorem acX{n:Int}(h:pP p n=some q):∃ ps,parts q=some ps/\qv q=qv p:=by
 unfold pP at h
 cases hp:parts p with
 | none=>rw[hp]at h;cases h
 | some ps=>
  rw[hp]at h
  simp only at h
  split at h
  .cases h
  .rename_i hn
   split at h
   .rename_i hs
    cases h
    obtain⟨qs,hqs⟩:=Option.isSome_iff_exists.1 hs
    refine⟨qs,hqs,?_⟩
    obtain⟨hl,hg⟩:=qW.1 hp
    obtain⟨hql,hqg⟩:=qW.1 hqs
    have hne:ps≠[]:=fun e=>hn (.inl e)
    obtain⟨zs,x,rfl⟩:∃ zs x,ps=zs++[x]:=by
     rcases List.eq_nil_or_concat ps with e | ⟨zs,x,e⟩
     .exact mu e hne
     .exact⟨zs,x,by rw[e,List.concat_eq_append]⟩
    have e1:p++pO n=mk (zs++[x++pO n]):=by
     rw[hl,acd,acd];simp
    have hqn:qs≠[]:=by
     intro e
     subst e
     have h1:=mh List.length hql
     rw[mW]at h1
     have h2:1<=p.length:=by rw[hl];exact ala _
     have h3:(pO n).length=10:=anL 10 _
     simp[mk]at h1;omega
    have e2:qs=zs++[x++pO n]:=by
     have c1:cut ((mk qs).drop 1)=qs:=by unfold mk;rw[ma hqn];exact ai5 qs hqn fun y hy=>adB (hqg.ok y hy)
     have c2:cut ((mk (zs++[x++pO n])).drop 1)=zs++[x++pO n]:=by
      unfold mk;rw[ma z8]
      refine ai5 _ z8 fun y hy=>?_
      rcases mt.1 hy with h | h
      .exact adB (hg.ok y (by simp[h]))
      .rw[mo]at h
       rw[h]
       intro hm
       rcases mt.1 hm with h' | h'
       .exact adB (hg.ok x z8) h'
       .exact aug _ _ 47 h' rfl
     rw[<-c1,<-hql,e1,c2]
    unfold qv
    rw[hqs,hp,e2]
    simp
   .cases h
theorem ahp(a b:List Str)(u:Str):kc (a++b) u=kc a u+kc b u:=by unfold kc;rw[List.countP_append]
theorem alg(q u:Str):kc [q] u=if qv q=some u then 1 else 0:=by unfold kc;simp[List.countP_cons]
theorem aq9(h:kc ks u≠0):∃ k∈ks,qv k=some u:=by
 have:0<kc ks u:=by omega
 unfold kc at this
 rw[List.countP_pos_iff]at this
 obtain⟨k,h1,h2⟩:=this
 exact⟨k,h1,j2 h2⟩
theorem atU(h:k∈ks)(hp:qv k=some u):kc ks u≠0:=by
 have:0<kc ks u:=by
  unfold kc
  rw[List.countP_pos_iff]
  exact⟨k,h,j2 hp⟩
 omega
theorem ag4:qv [47]=none:=rfl
theorem Inv.no_kids(h:Inv st)(hq:st.lookup q=none):kc (st.map (·.1)) q=0:=by
 refine nv fun hn=>?_
 obtain⟨k,hk,hp⟩:=aq9 hn
 obtain⟨n,hl⟩:=aeV hk
 have hne:k≠[47]:=fun e=>by rw[e,ag4]at hp;cases hp
 obtain⟨u,m,h1,h2,_⟩:=h.up k n hl hne
 rw[hp]at h1
 cases h1
 rw[hq]at h2;cases h2
theorem anR(h:qv q=some u):∃ ps,parts q=some ps:=by
 unfold qv at h
 cases hp:parts q with
 | none=>rw[hp]at h;cases h
 | some ps=>exact⟨ps,rfl⟩
theorem auh(h:Inv st)(hlen:st.length<=4398046511104)(hu:st.lookup u=some n)(ho:n.own=0)(hc:¬ 9999999999<n.ctr)(hq:st.lookup q=none)(hpq:qv q=some u)(hd:d.length<=256):
  Inv (wv (st++[(q,⟨0,0,o,0,d⟩)]) u jg):=by
 have hqu:q≠u:=fun e=>by rw[e,hu]at hq;cases hq
 have hkids:=h.kids u n hu
 have hctr:=h.ctr u n hu
 have hle:kc (st.map (·.1)) u<=st.length:=by unfold kc;exact Lt List.countP_le_length z8
 have lk:∀ k,(wv (st++[(q,(⟨0,0,o,0,d⟩:Nd))]) u jg).lookup k=if k=u then some (jg n)else if k=q then some ⟨0,0,o,0,d⟩else st.lookup k:=fun k=>by
  rw[zx,aaT]
  by_cases e:k=u
  .subst e;rw[mc rfl,mc rfl,hu];try rfl
  .rw[ma e,ma e]
   by_cases e2:k=q
   .subst e2;rw[hq]
   .rw[ma e2,ma e2];cases st.lookup k<;>rfl
 have hb:jg n={n with ctr:=n.ctr+1,kids:=n.kids+1}:=by
  unfold jg
  rw[SL.wd z7 z7,SL.wd z7 z7]
 have hkeys:(wv (st++[(q,(⟨0,0,o,0,d⟩:Nd))]) u jg).map (·.1)=st.map (·.1)++[q]:=by rw[xA,mB];try rfl
 have hkc:∀ k,kc ((wv (st++[(q,(⟨0,0,o,0,d⟩:Nd))]) u jg).map (·.1)) k=kc (st.map (·.1)) k+if u=k then 1 else 0:=fun k=>by
  rw[hkeys,ahp,alg,hpq]
  simp
 have old:∀ v m,st.lookup v=some m->∃ m',(wv (st++[(q,(⟨0,0,o,0,d⟩:Nd))]) u jg).lookup v=some m'/\m'.own=m.own:=fun v m hv=>by
  rw[lk]
  by_cases e:v=u
  .subst e
   rw[hu]at hv;cases hv
   exact⟨_,mc rfl,rfl⟩
  .have e2:v≠q:=fun e=>by rw[e,hq]at hv;cases hv
   exact⟨m,by rw[ma e,ma e2];exact hv,rfl⟩
 have cases3:∀ k m,(wv (st++[(q,(⟨0,0,o,0,d⟩:Nd))]) u jg).lookup k=some m->(k=u/\m=jg n)\/(k=q/\k≠u/\m=⟨0,0,o,0,d⟩)\/(k≠u/\k≠q/\st.lookup k=some m):=fun k m hk=>by
  rw[lk]at hk
  by_cases e:k=u
  .rw[mc e]at hk;exact .inl ⟨e,(mA hk).symm⟩
  .rw[ma e]at hk
   by_cases e2:k=q
   .rw[mc e2]at hk;exact .inr (.inl ⟨e2,e,(mA hk).symm⟩)
   .rw[ma e2]at hk;exact .inr (.inr ⟨e,e2,hk⟩)
 refine⟨?_,?_,fun k m hk=>?_,fun k m hk hne=>?_,fun k m hk=>?_,fun k m hk=>?_,fun k m hk=>?_⟩
 .rw[hkeys,List.nodup_append]
  refine⟨h.keys,z8,?_⟩
  intro x hx y hy
  simp at hy
  intro e
  exact acL hq (by rw[<-hy,<-e];exact hx)
 .obtain⟨n0,h0⟩:=h.root
  obtain⟨m',h1,_⟩:=old _ _ h0
  exact⟨m',h1⟩
 .rcases cases3 k m hk with⟨rfl,_⟩ | ⟨rfl,_,_⟩ | ⟨_,_,h3⟩
  .exact h.path _ n hu
  .exact anR hpq
  .exact h.path k m h3
 .have fin:∀ v mm,qv k=some v->st.lookup v=some mm->mm.own=0->∃ u' m',qv k=some u'/\(wv (st++[(q,(⟨0,0,o,0,d⟩:Nd))]) u jg).lookup u'=some m'/\m'.own=0:=fun v mm h1 h2 h3=>by
   obtain⟨m',h4,h5⟩:=old v mm h2
   exact⟨v,m',h1,h4,by rw[h5];exact h3⟩
  rcases cases3 k m hk with⟨rfl,_⟩ | ⟨rfl,_,_⟩ | ⟨_,_,h3⟩
  .obtain⟨v,mm,h1,h2,h3⟩:=h.up _ n hu hne
   exact fin v mm h1 h2 h3
  .exact fin u n hpq hu ho
  .obtain⟨v,mm,h1,h2,h4⟩:=h.up k m h3 hne
   exact fin v mm h1 h2 h4
 .rw[hkc]
  rcases cases3 k m hk with⟨rfl,rfl⟩ | ⟨rfl,hne,rfl⟩ | ⟨h1,_,h3⟩
  .rw[mc rfl,hb];show n.kids+1=_;omega
  .rw[ma (fun e=>hne e.symm),h.no_kids hq];try rfl
  .rw[ma (fun e=>h1 e.symm)];exact h.kids k m h3
 .rcases cases3 k m hk with⟨rfl,rfl⟩ | ⟨rfl,hne,rfl⟩ | ⟨h1,_,h3⟩
  .rw[hb];show n.kids+1<=n.ctr+1/\n.ctr+1<=_;omega
  .exact⟨Int.le_refl _,show(0:Int)<=10000000000 by decide⟩
  .exact h.ctr k m h3
 .rcases cases3 k m hk with⟨rfl,rfl⟩ | ⟨rfl,hne,rfl⟩ | ⟨h1,_,h3⟩
  .exact h.data _ n hu
  .exact hd
  .exact h.data k m h3
theorem ap2(st:St)(p d:Str)(o:Int)(seq:Bool):(wo st p d o seq).1.length<=st.length+1:=by
 unfold wo
 repeat' split
 all_goals first | exact Nat.le_succ _ | (simp[wv])
theorem ap3{seq:Bool}(h:Inv st)(hlen:st.length<=4398046511104):Inv (wo st p d o seq).1:=by
 unfold wo
 cases hp:qv p with
 | none=>exact h
 | some u=>
  simp only
  split
  .exact h
  .rename_i hd
   split
   .exact h
   .cases hu:st.lookup u with
    | none=>exact h
    | some n=>
     simp only
     split
     .exact h
     .rename_i ho
      split
      .exact h
      .rename_i hc
       cases hq:(if seq=true then pP p n.ctr else some p)with
       | none=>exact h
       | some q=>
        simp only
        split
        .exact h
        .rename_i hs
         have hqn:st.lookup q=none:=by
          cases e:st.lookup q with
          | none=>rfl
          | some x=>rw[e]at hs;exact mu rfl hs
         have hpq:qv q=some u:=by
          split at hq
          .obtain⟨_,_,e⟩:=acX hq
           rw[e];exact hp
          .cases hq;exact hp
         exact auh h hlen hu (j2 ho) hc hqn hpq z7
theorem alh(st:St)(p:Str)(v:Int):(wq st p v).1.length<=st.length:=by
 have hdel:∀ (s:St) q,(jh s q).length<=s.length:=fun s q=>by
  induction s with
  | nil=>simp[jh]
  | cons x s ih=>
   obtain⟨k,n⟩:=x
   unfold jh
   split
   .simp
   .simp;exact ih
 unfold wq
 repeat' split
 all_goals first | exact mK _ | (refine Lt (hdel _ _) ?_;simp[wv])
theorem ali(h:Inv st)(hlen:st.length<=4398046511104):Inv (wq st p v).1:=by
 unfold wq
 split
 .exact h
 .rename_i hg
  cases hl:st.lookup p with
  | none=>exact h
  | some n=>
   simp only
   split
   .exact h
   .split
    .exact h
    .rename_i hk0
     cases hpp:qv p with
     | none=>exact h
     | some u=>
      simp only
      have hne:p≠[47]:=fun e=>hg (.inl e)
      obtain⟨u',m,h1,hu,ho⟩:=h.up p n hl hne
      rw[hpp]at h1;cases h1
      have hpu:=aeU hpp
      have hkn:=h.kids p n hl
      have hz:kc (st.map (·.1)) p=0:=by omega
      have hkm:=h.kids u m hu
      have hcm:=h.ctr u m hu
      have hin:=ajc hl
      have hpos:=atU hin hpp
      have hle:kc (st.map (·.1)) u<=st.length:=by unfold kc;exact Lt List.countP_le_length z8
      have hb:xX m={m with kids:=m.kids - 1}:=by
       unfold xX;rw[SL.wd z7 z7]
      have hkM:((wv st u xX).map (·.1)).Nodup:=by rw[xA];exact h.keys
      have lk:∀ k,(jh (wv st u xX) p).lookup k=if k=p then none else if k=u then some (xX m)else st.lookup k:=fun k=>by
       rw[yh hkM,zx]
       by_cases e:k=p
       .rw[mc e,mc e]
       .rw[ma e,ma e]
        by_cases e2:k=u
        .subst e2;rw[mc rfl,mc rfl,hu];try rfl
        .rw[ma e2,ma e2]
      have hlM:(wv st u xX).lookup p=some n:=by rw[zx,ma hpu];exact hl
      obtain⟨a,b,k1,k2⟩:=anQ hlM
      rw[xA]at k1
      have hkc:∀ k,kc (st.map (·.1)) k=kc ((jh (wv st u xX) p).map (·.1)) k+if u=k then 1 else 0:=fun k=>by
       rw[k1,k2,show a++p::b=a++([p]++b)from rfl,ahp,ahp,ahp,alg,hpp]
       simp;omega
      have cases2:∀ k x,(jh (wv st u xX) p).lookup k=some x->k≠p/\((k=u/\x=xX m)\/(k≠u/\st.lookup k=some x)):=fun k x hk=>by
       rw[lk]at hk
       by_cases e:k=p
       .rw[mc e]at hk;cases hk
       .rw[ma e]at hk
        by_cases e2:k=u
        .rw[mc e2]at hk;exact⟨e,.inl ⟨e2,(mA hk).symm⟩⟩
        .rw[ma e2]at hk;exact⟨e,.inr ⟨e2,hk⟩⟩
      have old:∀ v x,st.lookup v=some x->v≠p->∃ x',(jh (wv st u xX) p).lookup v=some x'/\x'.own=x.own:=fun v x hv hvp=>by
       rw[lk,ma hvp]
       by_cases e:v=u
       .subst e
        rw[hu]at hv;cases hv
        exact⟨_,mc rfl,rfl⟩
       .exact⟨x,by rw[ma e];exact hv,rfl⟩
      refine⟨?_,?_,fun k x hk=>?_,fun k x hk hkn=>?_,fun k x hk=>?_,fun k x hk=>?_,fun k x hk=>?_⟩
      .rw[k2]
       have:=h.keys
       rw[k1]at this
       exact List.Nodup.sublist (List.Sublist.append_left (List.sublist_cons_self _ _) _) this
      .obtain⟨n0,h0⟩:=h.root
       obtain⟨x',h1,_⟩:=old _ _ h0 (fun e=>hne e.symm)
       exact⟨x',h1⟩
      .rcases cases2 k x hk with⟨_,⟨rfl,_⟩ | ⟨_,h3⟩⟩
       .exact h.path _ m hu
       .exact h.path k x h3
      .have hkin:∃ y,st.lookup k=some y:=by
        rcases cases2 k x hk with⟨_,⟨rfl,_⟩ | ⟨_,h3⟩⟩
        .exact⟨m,hu⟩
        .exact⟨x,h3⟩
       obtain⟨y,hy⟩:=hkin
       obtain⟨w,mm,g1,g2,g3⟩:=h.up k y hy hkn
       have hwp:w≠p:=fun e=>atU (ajc hy) (by rw[g1,e]) hz
       obtain⟨x',g4,g5⟩:=old w mm g2 hwp
       exact⟨w,x',g1,g4,by rw[g5];exact g3⟩
      .have hkc':=hkc k
       rcases cases2 k x hk with⟨_,⟨rfl,rfl⟩ | ⟨h2,h3⟩⟩
       .rw[mc rfl]at hkc'
        rw[hb];show m.kids - 1=_;omega
       .rw[ma (fun e=>h2 e.symm)]at hkc'
        have:=h.kids k x h3
        omega
      .rcases cases2 k x hk with⟨_,⟨rfl,rfl⟩ | ⟨h2,h3⟩⟩
       .rw[hb];show m.kids - 1<=m.ctr/\m.ctr<=_;omega
       .exact h.ctr k x h3
      .rcases cases2 k x hk with⟨_,⟨rfl,rfl⟩ | ⟨h2,h3⟩⟩
       .exact h.data _ m hu
       .exact h.data k x h3
theorem asz(st:St)(p d:Str)(v:Int):(xd st p d v).1.length=st.length:=by
 unfold xd
 repeat' split
 all_goals first | rfl | simp[wv]
theorem aui(h:Inv st):Inv (xd st p d v).1:=by
 unfold xd
 split
 .exact h
 .split
  .exact h
  .rename_i hd
   cases hl:st.lookup p with
   | none=>exact h
   | some n=>
    simp only
    split
    .exact h
    .have lk:∀ k x,(wv st p (ad3 d)).lookup k=some x->∃ y,st.lookup k=some y/\x.kids=y.kids/\x.ctr=y.ctr/\x.own=y.own/\x.data.length<=256:=fun k x hk=>by
      rw[zx]at hk
      by_cases e:k=p
      .subst e
       rw[mc rfl,hl]at hk
       cases hk
       exact⟨n,hl,rfl,rfl,rfl,by show d.length<=256;omega⟩
      .rw[ma e]at hk
       exact⟨x,hk,rfl,rfl,rfl,h.data k x hk⟩
     have old:∀ k y,st.lookup k=some y->∃ x,(wv st p (ad3 d)).lookup k=some x/\x.own=y.own:=fun k y hk=>by
      rw[zx]
      by_cases e:k=p
      .rw[mc e,hk];exact⟨_,rfl,rfl⟩
      .rw[ma e];exact⟨y,hk,rfl⟩
     refine⟨by rw[xA];exact h.keys,?_,fun k x hk=>?_,fun k x hk hne=>?_,fun k x hk=>?_,fun k x hk=>?_,fun k x hk=>?_⟩
     .obtain⟨n0,h0⟩:=h.root
      obtain⟨x,h1,_⟩:=old _ _ h0
      exact⟨x,h1⟩
     .obtain⟨y,h1,_⟩:=lk k x hk
      exact h.path k y h1
     .obtain⟨y,h1,_⟩:=lk k x hk
      obtain⟨u,m,g1,g2,g3⟩:=h.up k y h1 hne
      obtain⟨m',g4,g5⟩:=old u m g2
      exact⟨u,m',g1,g4,by rw[g5];exact g3⟩
     .obtain⟨y,h1,h2,_⟩:=lk k x hk
      rw[xA,h2];exact h.kids k y h1
     .obtain⟨y,h1,h2,h3,_⟩:=lk k x hk
      rw[h2,h3];exact h.ctr k y h1
     .obtain⟨y,_,_,_,_,h5⟩:=lk k x hk
      exact h5
end Zt
namespace Wi
open Go SL
variable{e n:Nat}{d l:Str}
def qY(n:Nat):Str:=if n<128 then [UInt8.ofNat n]else UInt8.ofNat (n%128+128)::qY (n / 128)
termination_by n
decreasing_by omega
def val:Str->Nat
 | []=>0
 | c::r=>c.toNat%128+128*val r
def abq:Nat->Str->Option Nat
 | 0,_=>none
 | _+1,[]=>none
 | k+1,c::r=>if c.toNat<128 then some 0 else(abq k r).map (· +1)
def num(l:Str):Nat×Nat×Int:=
 match abq 9 l with
 | none=>(0,0,if l.length<9 then 12 else 13)
 | some k=>if(0<k/\l[k]?=some 0)\/4611686018427387904<=val (l.take (k+1))then(0,0,13)else(val (l.take (k+1)),k+1,0)
theorem atV(c:UInt8):c.toNat<256:=c.toNat_lt
theorem afD(n:Nat)(h:n<256):(UInt8.ofNat n).toNat=n:=j0
theorem ap4{c d:UInt8}(h:c.toNat=d.toNat):c=d:=UInt8.toNat_inj.1 h
theorem ajd:∀ (m:Nat) (l:Str) (k:Nat),abq m l=some k->k<m/\k<l.length/\(∀i c,i<k->l[i]?=some c->128<=c.toNat)/\∃ c,l[k]?=some c/\c.toNat<128:=by
 intro m
 induction m with
 | zero=>intro l k h;cases h
 | succ m ih=>
  intro l k h
  cases l with
  | nil=>cases h
  | cons c r=>
   unfold abq at h
   split at h
   .rename_i hc
    cases h
    exact⟨z7,z8,fun i c hi=>by omega,c,rfl,hc⟩
   .rename_i hc
    obtain⟨k',hk',rfl⟩:=nj.1 h
    obtain⟨h1,h2,h3,h4⟩:=ih r k' hk'
    refine⟨z7,j0,fun i d hi hd=>?_,j2 h4⟩
    rcases i with _ | i
    .cases hd;omega
    .exact h3 i d z7 (j2 hd)
theorem auj:∀ (m:Nat) (l:Str) (k:Nat) (d:UInt8),k<m->(∀i c,i<k->l[i]?=some c->128<=c.toNat)->l[k]?=some d->d.toNat<128->abq m l=some k:=by
 intro m
 induction m with
 | zero=>intro l k d h;omega
 | succ m ih=>
  intro l k d hk hall hd hsm
  cases l with
  | nil=>cases hd
  | cons c r=>
   unfold abq
   rcases k with _ | k
   .cases hd;rw[mc hsm]
   .rw[ma (by have:=hall 0 c z7 rfl;omega),ih r k d z7 (fun i e hi he=>hall (i+1) e z7 (j2 he)) (j2 hd) hsm];rfl
theorem aje:∀ (m:Nat) (l:Str),(∀i c,i<m->l[i]?=some c->128<=c.toNat)->abq m l=none:=by
 intro m l h
 cases e:abq m l with
 | none=>rfl
 | some k=>
  obtain⟨h1,_,_,c,hc,h4⟩:=ajd m l k e
  have:=h k c h1 hc
  omega
theorem anS:∀ (l:Str) (k:Nat),val (l.take k)<128 ^ k:=by
 intro l
 induction l with
 | nil=>intro k;simp[val];exact Nat.pow_pos y0
 | cons c r ih=>
  intro k
  cases k with
  | zero=>simp[val]
  | succ k=>
   have:=ih k
   simp only[List.take_succ_cons,val]
   have:=LJ c.toNat (show 0<128 by decide)
   rw[Nat.pow_succ]
   omega
theorem asA(l:Str)(c:UInt8):val (l++[c])=val l+128 ^ l.length*(c.toNat%128):=by
 induction l with
 | nil=>simp[val]
 | cons d l ih=>simp only[nb,val,ih,mx,Nat.pow_succ];rw[Nat.mul_add,<-Nat.mul_assoc,Lu 128 (128 ^ l.length)];omega
theorem asB:∀ (m:Nat) (l:Str) (k:Nat),abq m l=some k->(k=0\/l[k]?≠some 0)->qY (val (l.take (k+1)))=l.take (k+1)/\(0<k->0<val (l.take (k+1))):=by
 intro m
 induction m with
 | zero=>intro l k h;cases h
 | succ m ih=>
  intro l k h hz
  cases l with
  | nil=>cases h
  | cons c r=>
   unfold abq at h
   split at h
   .rename_i hc
    cases h
    refine⟨?_,fun h=>by omega⟩
    simp only[List.take_succ_cons,Lr,val,Nat.mul_zero,Nat.add_zero,nG hc]
    unfold qY
    rw[mc hc]
    simp
   .rename_i hc
    obtain⟨k',hk',rfl⟩:=nj.1 h
    have hne:(k'=0\/r[k']?≠some 0)/\r[k']?≠some 0:=by
     rcases hz with h0 | h0
     .omega
     .have:r[k']?≠some 0:=by simpa using h0
      exact⟨.inr this,this⟩
    obtain⟨h1,h2⟩:=ih r k' hk' hne.1
    obtain⟨_,h3,_,d,hd,hd'⟩:=ajd m r k' hk'
    have hpos:0<val (r.take (k'+1)):=by
     rcases nc k' with h0 | h0
     .subst h0
      cases r with
      | nil=>cases hd
      | cons e r=>
       cases hd
       simp only[List.take_succ_cons,Lr,val,Nat.mul_zero,Nat.add_zero,nG hd']
       rcases nc d.toNat with h5 | h5
       .exact mu (by rw[show d=0 from ap4 h5];try rfl) hne.2
       .exact h5
     .exact h2 h0
    have hc256:=atV c
    refine⟨?_,fun _=>?_⟩
    .simp only[List.take_succ_cons,val]
     unfold qY
     rw[ma z7,show(c.toNat%128+128*val (List.take (k'+1) r)) / 128=val (List.take (k'+1) r) by omega,h1]
     congr 1
     refine ap4 ?_
     rw[afD _ z7];omega
    .simp only[List.take_succ_cons,val];omega
theorem alY(n:Nat):qY n≠[]:=by unfold qY;split<;>simp
theorem aaU:∀ (m n:Nat),n<128 ^ (m+1)->1<=(qY n).length/\(qY n).length<=m+1:=by
 intro m
 induction m with
 | zero=>intro n h;unfold qY;rw[mc (j2 h)];simp
 | succ m ih=>
  intro n h
  unfold qY
  split
  .simp
  .have:=ih (n / 128) (by rw[Nat.pow_succ]at h;exact Nat.div_lt_of_lt_mul (by rw[Lu];exact h))
   simp;omega
theorem ara:∀ (m n:Nat) (r:Str),n<128 ^ (m+1)->∃ k,abq (m+1) (qY n++r)=some k/\(qY n).length=k+1/\val (qY n)=n/\(0<k->(qY n)[k]?≠some 0)/\(0<n\/k=0):=by
 intro m
 induction m with
 | zero=>
  intro n r h
  have h:n<128:=by simpa using h
  unfold qY
  rw[mc h]
  refine⟨0,?_,rfl,?_,fun h=>by omega,.inr rfl⟩
  .unfold abq;rw[nb];simp only;rw[afD _ z7,mc h]
  .simp only[val];rw[afD _ z7];omega
 | succ m ih=>
  intro n r h
  by_cases hn:n<128
  .unfold qY
   rw[mc hn]
   refine⟨0,?_,rfl,?_,fun h=>by omega,.inr rfl⟩
   .unfold abq;rw[nb];simp only;rw[afD _ z7,mc hn]
   .simp only[val];rw[afD _ z7];omega
  .obtain⟨k,h1,h2,h3,h4,h5⟩:=ih (n / 128) r (by rw[Nat.pow_succ]at h;exact Nat.div_lt_of_lt_mul (by rw[Lu];exact h))
   rw[qY,ma hn]
   refine⟨k+1,?_,by simp[h2],?_,fun _=>?_,.inl z7⟩
   .rw[nb]
    unfold abq
    rw[afD _ z7,ma z7,h1];try rfl
   .simp only[val];rw[h3,afD _ z7];omega
   .rw[LK]
    rcases nc k with h0 | h0
    .subst h0
     have hlt:n / 128<128\/¬ n / 128<128:=by omega
     rcases hlt with hlt | hlt
     .rw[qY,mc hlt]
      simp only[List.getElem?_cons_zero]
      intro e
      have:=mh UInt8.toNat (mA e)
      rw[afD _ z7]at this
      simp at this;omega
     .rw[qY,ma hlt]at h2
      have:=nz.2 (alY (n / 128 / 128))
      rw[mx]at h2;omega
    .exact h4 h0
theorem auk(h:n<4611686018427387904)(r:Str):num (qY n++r)=(n,(qY n).length,0):=by
 obtain⟨k,h1,h2,h3,h4,_⟩:=ara 8 n r z7
 unfold num
 rw[h1]
 have e1:(qY n++r).take (k+1)=qY n:=by rw[<-h2];simp
 have e2:(qY n++r)[k]?=(qY n)[k]?:=mM z7
 simp only[e1,e2,h3]
 rw[ma,h2]
 rintro(⟨h5,h6⟩ | h5)
 .exact h4 h5 h6
 .omega
theorem alZ(h:num l=(n,e,0)):n<4611686018427387904/\0<e/\e<=l.length/\l.take e=qY n:=by
 unfold num at h
 cases hs:abq 9 l with
 | none=>
  rw[hs]at h
  simp only[Prod.mk.injEq]at h
  have:=h.2.2
  split at this<;>omega
 | some k=>
  rw[hs]at h
  simp only at h
  split at h
  .simp at h
  .rename_i hb
   simp only[not_or]at hb
   simp only[Prod.mk.injEq]at h
   obtain⟨rfl,rfl,_⟩:=h
   obtain⟨_,h2,_,_⟩:=ajd 9 l k hs
   refine⟨z7,z7,z7,((asB 9 l k hs ?_).1).symm⟩
   rcases nc k with h0 | h0
   .exact .inl h0
   .exact .inr fun h=>hb.1 ⟨h0,h⟩
theorem arb(h:num l=(n,e,0)):l=qY n++l.drop e:=by
 rw[<-(alZ h).2.2.2,List.take_append_drop]
theorem aul(h:(num l).2.2≠0):(num l).1=0/\(num l).2.1=0/\((num l).2.2=12\/(num l).2.2=13):=by
 unfold num at h⊢
 cases hs:abq 9 l with
 | none=>simp only;refine⟨z8,z8,?_⟩;split<;>simp
 | some k=>
  rw[hs]at h
  simp only at h⊢
  split
  .simp
  .rename_i hb;rw[ma hb]at h;simp at h
theorem arc(l:Str):(num l).2.1<=l.length/\(num l).1<4611686018427387904:=by
 by_cases h:(num l).2.2=0
 .obtain⟨h1,_,h3,_⟩:=alZ (l:=l) (n:=(num l).1) (e:=(num l).2.1) (by rw[<-h])
  exact⟨h3,h1⟩
 .obtain⟨h1,h2,_⟩:=aul h
  rw[h1,h2];exact⟨Nat.zero_le _,y0⟩
def qK(x:Int):Bool:=decide (0<=x) && decide (x<=4611686018427387903)
structure Rd where
 rest:Str
 err:Int
def pQ(d:Str):Str:=qY d.length++d
def qL(r:Rd):Nat×Rd:=if r.err≠0 then(0,r)else((num r.rest).1,⟨r.rest.drop (num r.rest).2.1,(num r.rest).2.2⟩)
def wi(r:Rd):Str×Rd:=
 if(qL r).2.err≠0 then([],(qL r).2)
 else if(qL r).2.rest.length<(qL r).1 then([],⟨r.rest,12⟩)
 else((qL r).2.rest.take (qL r).1,⟨(qL r).2.rest.drop (qL r).1,0⟩)
theorem ah2(h:n<4611686018427387904)(r:Str):qL ⟨qY n++r,0⟩=(n,⟨r,0⟩):=by
 unfold qL
 simp only[ne_eq,not_true_eq_false,if_false,auk h,List.drop_left]
theorem amE(h:d.length<4611686018427387904)(r:Str):wi ⟨pQ d++r,0⟩=(d,⟨r,0⟩):=by
 unfold wi pQ
 rw[nk,ah2 h]
 simp
theorem akD{r:Rd}(h:r.err≠0):qL r=(0,r):=by unfold qL;rw[mc h]
theorem ard{r:Rd}(h:r.err≠0):wi r=([],r):=by unfold wi;rw[akD h,mc h]
theorem ah3{r:Rd}(h:(qL r).2.err=0):r.err=0:=nv fun hn=>hn (by rw[akD hn]at h;exact h)
theorem arf{r:Rd}(h:(wi r).2.err=0):r.err=0:=nv fun hn=>hn (by rw[ard hn]at h;exact h)
theorem afE{r:Rd}(h:(qL r).2.err=0):(qL r).1<4611686018427387904/\r.rest=qY (qL r).1++(qL r).2.rest:=by
 have h0:=ah3 h
 unfold qL at h⊢
 rw[ma (by simp[h0])]at h⊢
 have hn:num r.rest=((num r.rest).1,(num r.rest).2.1,0):=by rw[<-h]
 exact⟨(alZ hn).1,arb hn⟩
theorem akn{r:Rd}(h:(wi r).2.err=0):(wi r).1.length<4611686018427387904/\r.rest=pQ (wi r).1++(wi r).2.rest:=by
 unfold wi at h⊢
 by_cases h1:(qL r).2.err=0
 .rw[ma (by simp[h1])]at h⊢
  by_cases h2:(qL r).2.rest.length<(qL r).1
  .rw[mc h2]at h;cases h
  .rw[ma h2]at h⊢
   obtain⟨h3,h4⟩:=afE h1
   have hl:((qL r).2.rest.take (qL r).1).length=(qL r).1:=by simp;omega
   refine⟨by simp only[hl];exact h3,?_⟩
   simp only[pQ,hl]
   rw[nk,List.take_append_drop];exact h4
 .rw[mc h1]at h;exact mu h h1
end Wi
namespace Zt
open Go SL Pa Wi
variable{ks ps:List Str}{st x:St}{a b k:Str}{p:Str×Nd}
def Srt(x:St):Prop:=x.Pairwise fun a b=>a.1<b.1
theorem ad5(a:Str):¬ a<a:=List.lt_irrefl a
theorem ajf{c:Str}(h:a<b)(k:b<c):a<c:=List.lt_trans h k
theorem arh(h:a<b):a<=b:=List.le_of_lt h
theorem ajg(h:a<=b)(hn:a≠b):a<b:=by
 rcases List.le_iff_lt_or_eq.1 h with h | h
 .exact h
 .exact mu h hn
theorem ajO:¬ a<=b↔b<a:=List.not_le
theorem Srt.nodup(h:Srt x):(x.map (·.1)).Nodup:=by
 unfold List.Nodup
 rw[LL]
 refine List.Pairwise.imp (R:=fun(a b:Str×Nd)=>a.1<b.1) (fun{a b} (h:a.1<b.1) (e:a.1=b.1)=>ad5 b.1 (by rw[e]at h;exact h)) h
theorem qO(hk:(st.map (·.1)).Nodup){n:Nd}:st.lookup k=some n↔(k,n)∈st:=by
 induction st with
 | nil=>simp
 | cons p st ih=>
  obtain⟨p,m⟩:=p
  simp only[mF,nl]at hk
  rw[mY]
  by_cases c:k=p
  .subst c
   rw[show(k == k)=true by simp]
   simp only[mq,Prod.mk.injEq,true_and]
   refine⟨fun h=> .inl (mA h).symm,fun h=>?_⟩
   rcases h with h | h
   .rw[h]
   .exact mu (mC.2 ⟨_,h,rfl⟩) hk.1
  .rw[show(k == p)=false by simpa using c]
   simp only[mq,Prod.mk.injEq,c,false_and,false_or]
   exact ih hk.2
theorem aeI{a b:St}(h:a.Perm b)(hk:(a.map (·.1)).Nodup)(k:Str):a.lookup k=b.lookup k:=by
 have hk':(b.map (·.1)).Nodup:=(h.map _).nodup_iff.1 hk
 cases e:a.lookup k with
 | none=>
  cases e':b.lookup k with
  | none=>rfl
  | some n=>rw[(qO hk).2 (h.mem_iff.2 ((qO hk').1 e'))]at e;cases e
 | some n=>exact((qO hk').2 (h.mem_iff.1 ((qO hk).1 e))).symm
theorem asC:∀ {x y:List Str},x.Pairwise (· < ·)->y.Pairwise (· < ·)->x.Perm y->x=y:=by
 intro x
 induction x with
 | nil=>intro y _ _ h;exact h.nil_eq
 | cons a x ih=>
  intro y hx hy h
  cases y with
  | nil=>exact mu h.symm.nil_eq z8
  | cons b y=>
   obtain⟨hx1,hx2⟩:=LI.1 hx
   obtain⟨hy1,hy2⟩:=LI.1 hy
   have hab:a=b:=nv fun hn=>by
    have ha:a∈b::y:=h.mem_iff.1 z8
    have hb:b∈a::x:=h.mem_iff.2 z8
    rcases mq.1 ha with e | ha
    .exact hn e
    rcases mq.1 hb with e | hb
    .exact hn e.symm
    exact ad5 _ (ajf (hy1 a ha) (hx1 b hb))
   subst hab
   rw[ih hx2 hy2 ((List.perm_cons a).1 h)]
theorem al0(h:ks.Pairwise (· <= ·))(hn:ks.Nodup):ks.Pairwise (· < ·):=by
 exact(h.and hn).imp fun{a b} h=>ajg h.1 h.2
def srt(st:St):St:=st.mergeSort fun a b=>decide (a.1<=b.1)
theorem vC(st:St):(srt st).Perm st:=List.mergeSort_perm _ _
theorem ajP(hk:(st.map (·.1)).Nodup):Srt (srt st):=by
 have h1:(srt st).Pairwise fun a b=>decide (a.1<=b.1)=true:=List.pairwise_mergeSort (le:=fun(a b:Str×Nd)=>decide (a.1<=b.1))
  (fun a b c h k=>by simp only[mP]at *;exact List.le_trans h k) (fun a b=>by
   simp only[Bool.or_eq_true,mP]
   exact List.le_total a.1 b.1) st
 have h2:((srt st).map (·.1)).Nodup:=((vC st).map _).nodup_iff.2 hk
 unfold List.Nodup at h2
 rw[LL]at h2
 exact(h1.and h2).imp fun{a b} h=>ajg (j2 h.1) h.2
theorem ah4(hk:(st.map (·.1)).Nodup)(h:ks.Perm (st.map (·.1)))(hs:ks.Pairwise (· <= ·)):ks=(srt st).map (·.1):=by
 refine asC (al0 hs (h.nodup_iff.2 hk)) ?_ (h.trans ((vC st).map _).symm)
 rw[LL]
 exact ajP hk
def yt(n:Nd):Bool:=qK n.ver && qK n.ctr && qK n.own
def ag5(p:Str×Nd):Str:=pQ p.1++(pQ p.2.data++(qY p.2.ver.toNat++(qY p.2.ctr.toNat++qY p.2.own.toNat)))
def acs(x:St):Str:=x.flatMap ag5
def al1(st:St):Str:=if(srt st).all (fun p=>yt p.2)then acs (srt st)else []
def ag6(n:Nd):Nd:={n with kids:=i64.wrap (n.kids+1)}
def lay(st:St)(last p:Str)(n:Nd):Option St:=
 if parts p=none\/p<=last\/256<n.data.length\/10000000000<n.ctr\/(n.own≠0/\0<n.ctr)then none
 else if last=[]then(if p=[47]/\n.data=[]/\n.ver=0/\n.own=0 then some (st++[(p,n)])else none)
 else match qv p with
  | none=>none
  | some u=>match st.lookup u with
   | none=>none
   | some m=>if m.own≠0 then none else some (wv st u ag6++[(p,n)])
def ke(r:Rd):(Str×Nd)×Rd:=
 let a:=wi r
 let b:=wi a.2
 let c:=qL b.2
 let d:=qL c.2
 let e:=qL d.2
 ((a.1,⟨c.1,d.1,e.1,0,b.1⟩),e.2)
def ajh:Nat->Rd->St->Str->Option St
 | 0,_,_,_=>none
 | f+1,r,st,last=>
  if r.rest=[]/\last≠[]then some st
  else if(ke r).2.err≠0 then none
  else match lay st last (ke r).1.1 (ke r).1.2 with
   | none=>none
   | some st'=>ajh f (ke r).2 st' (ke r).1.1
def dec(b:Str):Option St:=
 match ajh (b.length+1) ⟨b,0⟩ [] []with
 | none=>none
 | some st=>if st.all fun p=>decide (p.2.kids<=p.2.ctr)then some st else none
theorem ari(h1:p.1.length<4611686018427387904)(h2:p.2.data.length<4611686018427387904)(h3:yt p.2=true)(r:Str):
  ke ⟨ag5 p++r,0⟩=((p.1,{p.2 with kids:=0}),⟨r,0⟩):=by
 unfold yt qK at h3
 simp only[mw,mP]at h3
 obtain⟨⟨⟨v0,v1⟩,c0,c1⟩,o0,o1⟩:=h3
 unfold ke ag5
 simp only[nk]
 rw[amE h1,amE h2,ah2 z7,ah2 z7,ah2 z7]
 simp only[LP v0,LP c0,LP o0]
def pre(a:St):St:=a.map fun p=>(p.1,{p.2 with kids:=(kc (a.map (·.1)) p.1:Nat)})
theorem arj(h:a <+: b)(hn:a≠b):a<b:=by
 obtain⟨t,rfl⟩:=h
 induction a with
 | nil=>
  cases t with
  | nil=>exact mu rfl hn
  | cons c t=>exact List.nil_lt_cons c t
 | cons c a ih=>
  rw[nb,List.cons_lt_cons_iff]
  exact .inr ⟨rfl,ih fun h=>hn (by rw[nb,<-h])⟩
theorem amF{p u:Str}(h:qv p=some u):u<p:=by
 have hne:=aeU h
 refine arj ?_ hne.symm
 unfold qv at h
 cases hp:parts p with
 | none=>rw[hp]at h;cases h
 | some ps=>
  rw[hp]at h
  simp only at h
  split at h
  .cases h
  .rename_i hps
   cases h
   obtain⟨hl,hg⟩:=qW.1 hp
   rw[hl]
   have e:=List.dropLast_concat_getLast hps
   conv=>rhs;rw[<-e,acd]
   by_cases h0:ps.dropLast=[]
   .rw[h0,mc rfl]
    exact⟨ps.getLast hps,rfl⟩
   .rw[ma h0]
    exact List.prefix_append _ _
structure aji(st:St):Prop where
 inv:Inv st
 nums:∀ k n,st.lookup k=some n->yt n=true/\(n.own≠0->n.ctr=0)
 rt:∀ n,st.lookup [47]=some n->n.data=[]/\n.ver=0/\n.own=0
theorem asD{a b:List Str}(h:a.Perm b)(u:Str):kc a u=kc b u:=by unfold kc;exact h.countP_eq _
theorem anT{a b:St}(h:a.Perm b)(hi:Inv a):Inv b:=by
 have hl:=aeI h hi.keys
 refine⟨(h.map _).nodup_iff.1 hi.keys,?_,fun k n hk=>?_,fun k n hk hne=>?_,fun k n hk=>?_,fun k n hk=>?_,fun k n hk=>?_⟩
 .obtain⟨n,hn⟩:=hi.root;exact⟨n,by rw[<-hl];exact hn⟩
 .exact hi.path k n (by rw[hl];exact hk)
 .obtain⟨u,m,h1,h2,h3⟩:=hi.up k n (by rw[hl];exact hk) hne
  exact⟨u,m,h1,by rw[<-hl];exact h2,h3⟩
 .rw[hi.kids k n (by rw[hl];exact hk),asD (h.map _)]
 .exact hi.ctr k n (by rw[hl];exact hk)
 .exact hi.data k n (by rw[hl];exact hk)
theorem amG{a b:St}(h:a.Perm b)(hi:aji a):aji b:=by
 have hl:=aeI h hi.inv.keys
 exact⟨anT h hi.inv,fun k n hk=>hi.nums k n (by rw[hl];exact hk),fun n hk=>hi.rt n (by rw[hl];exact hk)⟩
theorem ap5(a:St)(u:Str):(pre a).lookup u=(a.lookup u).map fun n=>{n with kids:=(kc (a.map (·.1)) u:Nat)}:=by
 unfold pre
 generalize a.map (·.1)=ks
 induction a with
 | nil=>rfl
 | cons p a ih=>
  obtain⟨p,m⟩:=p
  rw[mF,mY,mY]
  by_cases c:u=p
  .subst c
   rw[show(u == u)=true by simp];try rfl
  .rw[show(u == p)=false by simpa using c];exact ih
def acY(a:St):Str:=match a.getLast? with
 | none=>[]
 | some p=>p.1
theorem ap6(a:St)(p:Str×Nd):acY (a++[p])=p.1:=by unfold acY;simp
theorem ajQ{p:Str}(h:parts p=some ps):p≠[]:=fun e=>by
 obtain⟨hl,_⟩:=qW.1 h
 obtain⟨r,hr⟩:=ajN ps
 rw[e,hr]at hl;cases hl
theorem apl(h:parts k=some ps):([47]:Str)<=k:=by
 obtain⟨hl,_⟩:=qW.1 h
 obtain⟨r,hr⟩:=ajN ps
 rw[hl,hr,List.cons_le_cons_iff]
 exact .inr ⟨rfl,List.nil_le _⟩
theorem avV(ks:List Str)(u:Str):kc ks u<=ks.length:=by unfold kc;exact List.countP_le_length
theorem asE{a b:St}(hs:Srt x)(hi:aji x)(hn:x.length<=4611686018427387904)(he:a++p::b=x):lay (pre a) (acY a) p.1 {p.2 with kids:=0}=some (pre (a++[p])):=by
 have hin:p∈x:=by rw[<-he];simp
 have hlk:=(qO hs.nodup (k:=p.1) (n:=p.2)).2 hin
 obtain⟨ps,hps⟩:=hi.inv.path _ _ hlk
 have hctr:=hi.inv.ctr _ _ hlk
 have hdata:=hi.inv.data _ _ hlk
 have hnum:=hi.nums _ _ hlk
 have hs':=hs
 rw[<-he]at hs'
 obtain⟨hsa,hsb,hab⟩:=List.pairwise_append.1 hs'
 have hall:∀ q∈a,q.1<p.1:=fun q hq=>hab q hq p z8
 have hlast:¬ p.1<=acY a:=by
  rw[ajO]
  unfold acY
  cases e:a.getLast? with
  | none=>
   cases hp:p.1 with
   | nil=>exact mu hp (ajQ hps)
   | cons c r=>exact List.nil_lt_cons c r
  | some q=>exact hall q (List.mem_of_getLast? e)
 have hkc0:kc (a.map (·.1)) p.1=0:=nv fun h=>by
  obtain⟨k,hk,hp⟩:=aq9 h
  obtain⟨q,hq,rfl⟩:=mC.1 hk
  exact ad5 _ (ajf (hall q hq) (amF hp))
 have hkc1:kc [p.1] p.1=0:=by
  rw[alg,ma (fun h=>aeU h rfl)]
 have hnd:(a.map (·.1)).Nodup:=Srt.nodup hsa
 unfold lay
 rw[ma (by
  rintro(h | h | h | h | h)
  .rw[hps]at h;cases h
  .exact hlast h
  .simp only at h;omega
  .simp only at h;omega
  .exact mu h.2 (by have:=hnum.2 h.1;simp only;omega))]
 by_cases ha:a=[]
 .subst ha
  rw[mc (show acY []=[]from rfl)]
  have hroot:p.1=[47]:=by
   obtain⟨n0,hn0⟩:=hi.inv.root
   have h0:=(qO hs.nodup).1 hn0
   rw[<-he]at h0
   rcases mq.1 h0 with e | h0
   .rw[<-e]
   .have h1:=(LI.1 hsb).1 _ h0
    exact mu (apl hps) (by rw[ajO];exact h1)
  have hrt:=hi.rt p.2 (by rw[<-hroot];exact hlk)
  rw[mc ⟨hroot,hrt⟩]
  simp only[pre,LN,nx,mF]
  rw[hkc1];try rfl
 .have hlne:acY a≠[]:=by
   unfold acY
   cases e:a.getLast? with
   | none=>simp at e;exact mu e ha
   | some q=>
    have hq:q∈x:=by rw[<-he];exact Ld _ (List.mem_of_getLast? e)
    obtain⟨qs,hqs⟩:=hi.inv.path _ _ ((qO hs.nodup (k:=q.1) (n:=q.2)).2 hq)
    exact ajQ hqs
  rw[ma hlne]
  have hne:p.1≠[47]:=fun e=>by
   obtain⟨q,hq⟩:=List.exists_mem_of_ne_nil a ha
   have h1:=hall q hq
   have hq':q∈x:=by rw[<-he];exact Ld _ hq
   obtain⟨qs,hqs⟩:=hi.inv.path _ _ ((qO hs.nodup (k:=q.1) (n:=q.2)).2 hq')
   rw[e]at h1
   exact mu (apl hqs) (by rw[ajO];exact h1)
  obtain⟨u,mm,hu,hum,hown⟩:=hi.inv.up _ _ hlk hne
  rw[hu]
  have hua:(u,mm)∈a:=by
   have h0:=(qO hs.nodup).1 hum
   rw[<-he]at h0
   rcases mt.1 h0 with h | h
   .exact h
   .rcases mq.1 h with e | h
    .rw[<-e]at hu;exact mu rfl (aeU hu)
    .have h1:=(LI.1 hsb).1 _ h
     exact mu (ajf h1 (amF hu)) (ad5 _)
  have hul:=(qO hnd).2 hua
  simp only
  rw[ap5,hul]
  simp only[Option.map_some]
  rw[ma (j2 hown)]
  refine mh some ?_
  unfold pre
  rw[mB,mB,mF,LN]
  congr 1
  .unfold wv
   rw[nP]
   refine List.map_congr_left fun q hq=>?_
   simp only[Function.comp_apply]
   rw[ahp,alg,hu]
   by_cases e:q.1=u
   .rw[mc e,e,mc rfl]
    unfold ag6
    simp only
    have hkl:=avV (a.map (·.1)) u
    have hxl:a.length<x.length:=by rw[<-he];simp
    rw[mi]at hkl
    rw[wd z7 z7]
    try rfl
   .rw[ma e,ma (fun h=>e (mA h).symm)];try rfl
  .rw[mF,LN,ahp,hkc0,hkc1];try rfl
theorem apm(p:Str×Nd):ag5 p≠[]:=by
 unfold ag5 pQ
 intro h
 simp at h
 exact alY _ h.1
theorem asF(hs:Srt x)(hi:aji x)(hn:x.length<=4611686018427387904):∀ (b a:St) (f:Nat),a++b=x->(acs b).length<f->ajh f ⟨acs b,0⟩ (pre a) (acY a)=some (pre x):=by
 have hlen:∀ p∈x,p.1.length<4611686018427387904/\p.2.data.length<4611686018427387904:=fun p hp=>by
  have hlk:=(qO hs.nodup (k:=p.1) (n:=p.2)).2 hp
  obtain⟨ps,hps⟩:=hi.inv.path _ _ hlk
  obtain⟨hl,hg⟩:=qW.1 hps
  have:=(apY hg).2
  have:=hi.inv.data _ _ hlk
  rw[hl];omega
 intro b
 induction b with
 | nil=>
  intro a f he hf
  rw[ny]at he
  subst he
  cases f with
  | zero=>omega
  | succ f=>
   unfold ajh
   have hane:acY a≠[]:=by
    obtain⟨n0,hn0⟩:=hi.inv.root
    have h0:=(qO hs.nodup).1 hn0
    unfold acY
    cases e:a.getLast? with
    | none=>simp at e;rw[e]at h0;cases h0
    | some q=>
     obtain⟨qs,hqs⟩:=hi.inv.path _ _ ((qO hs.nodup (k:=q.1) (n:=q.2)).2 (List.mem_of_getLast? e))
     exact ajQ hqs
   rw[mc ⟨rfl,hane⟩]
 | cons p b ih=>
  intro a f he hf
  cases f with
  | zero=>omega
  | succ f=>
   have hp:p∈x:=by rw[<-he];simp
   have hlk:=(qO hs.nodup (k:=p.1) (n:=p.2)).2 hp
   have e1:acs (p::b)=ag5 p++acs b:=by unfold acs;rw[nI]
   unfold ajh
   rw[e1]
   rw[ma (by
    rintro⟨h,_⟩
    simp only[List.append_eq_nil_iff]at h
    exact apm p h.1)]
   rw[ari (hlen p hp).1 (hlen p hp).2 (hi.nums _ _ hlk).1]
   simp only[ne_eq,not_true_eq_false,if_false]
   rw[asE hs hi hn he]
   simp only
   have:=ih (a++[p]) f (by rw[<-he];simp) (by
    rw[e1,mW]at hf
    have:=nz.2 (apm p)
    omega)
   rw[ap6]at this
   exact this
theorem au6(hs:Srt x)(hi:Inv x):pre x=x:=by
 unfold pre
 conv=>rhs;rw[<-List.map_id x]
 refine List.map_congr_left fun p hp=>?_
 have:=hi.kids _ _ ((qO hs.nodup (k:=p.1) (n:=p.2)).2 hp)
 obtain⟨k,n⟩:=p
 simp only at this⊢
 rw[<-this];try rfl
theorem aum(hs:Srt x)(hi:aji x)(hn:x.length<=4611686018427387904):dec (acs x)=some x:=by
 unfold dec
 have:=asF hs hi hn x [] ((acs x).length+1) rfl z7
 rw[show acY []=[]from rfl,show pre []=[]from rfl,au6 hs hi.inv]at this
 rw[this]
 simp only
 rw[mc]
 rw[mD]
 intro p hp
 have:=(hi.inv.ctr _ _ ((qO hs.nodup (k:=p.1) (n:=p.2)).2 hp)).1
 simpa using this
theorem apn(hi:aji st):al1 st=acs (srt st):=by
 unfold al1
 rw[mc]
 rw[mD]
 intro p hp
 have h3:=amG (vC st).symm hi
 exact(h3.nums _ _ ((qO (ajP hi.inv.keys).nodup (k:=p.1) (n:=p.2)).2 hp)).1
theorem anU(hi:aji st)(hn:st.length<=4611686018427387904):dec (al1 st)=some (srt st):=by
 rw[apn hi]
 exact aum (ajP hi.inv.keys) (amG (vC st).symm hi) (by rw[(vC st).length_eq];exact hn)
end Zt
namespace Zt
open Go SL G Pa
variable{B:World}{ro I I':AH}{tag tag':Nat->Nat}
variable{p:ByteArray}{bs:List Nat}{M T q r x:Nat}{Q:Sl->Int->AH->Prop}{st:St}
theorem ahq{Q:Sl->Int->Int->Int->Int->Int->AH->Prop}(g:wW ro)(hr:r<64)(hr6:r≠6)(hr0:r≠0)(h:qU tag I r T M bs st)(hdl:∀ p n,st.lookup p=some n->n.data.length<=256)
  (hbad:parts (L p)=none->∀ tag' I',zU 0 ro tag I tag' I'->Q ⟨none,0,0⟩ 0 0 0 0 20 I') (hmiss:∀ ps,parts (L p)=some ps->st.lookup (L p)=none->∀ tag' I',zU 0 ro tag I tag' I'->Q ⟨none,0,0⟩ 0 0 0 0 70 I')
  (hhit:∀ n,st.lookup (L p)=some n->∀ s tag' I',zU 0 ro tag I tag' I'->Row tag' I' 6 5 s (n.data.map vU)->Q s n.ver n.ctr n.own n.kids 0 I'):xy B ro (some ⟨T,0,none⟩) p I Q:=by
 refine aj1 fun hs=>?_
 unfold adc
 refine qh (tag:=tag) 0 hs fun x tag1 I1 st1 r1=>?_
 have hA:=h.keep (st1 [])
 have hs1:=(st1 []).sep
 have err:∀ e:Int,(∀tag' I',zU 0 ro tag I tag' I'->Q ⟨none,0,0⟩ 0 0 0 0 e I')->stN ⟨x,0,none⟩ (fun I=> ∃(x5_4a:Int) (x5_4b:Int) (x5_4c:Int) (x5_4d:Int),qe ro I ⟨x,0,none⟩ 0 [.int .i64 x5_4a,.int .i64 x5_4b,.int .i64 x5_4c,.int .i64 x5_4d]/\Q (⟨none,0,0⟩:Sl) x5_4a x5_4b x5_4c x5_4d e I) [.int .i64 0,.int .i64 0,.int .i64 0,.int .i64 0] 0 I1:=by
  intro e he
  refine r1.stAll hs1 rfl (by simp[qf]) fun I2 st2 r2=>?_
  obtain⟨q,hq,hg⟩:=r2.ptr st2.sep z8
  cases hq
  exact⟨0,0,0,0,zt 0 fun j v hj=>by have:=hg j v hj;rwa [mV,<-ml j]at this,he tag1 I2 (((st1 []).c z8).trans (st2.c z8))⟩
 refine alU g hA hs1 (fun hb=>?_) (fun ps hps hl=>?_) (fun ps i b n hps hb hp hl=>?_)
 .rw[mc y0]
  exact err 20 (hbad hb)
 .rw[mc y0]
  exact err 70 (hmiss ps hps hl)
 .rw[ma y0]
  obtain⟨ds,hn,hd⟩:=hA.nodes i b _ hb hp
  obtain⟨ht0,hto⟩:=hn.tagOf
  refine adR b ?_
  have hs2:SL.Sep (join ro (SL.one I1 b)) (SL.del I1 b):=hs1.lent
  refine⟨_,rfl,_,rfl,n.ver,n.ctr,n.own,n.kids,zt 0 fun j v hj=>?_,ds,hn.lend hs1 (i:=4) rfl,?_⟩
  .rw[ml,<-mV j]
   have hj4:j<4:=by
    rcases mL j 4 with h' | h'
    .exact h'
    .rw[mI (j2 h')]at hj;cases hj
   refine hn.lend hs1 (i:=j) ?_
   rw[<-hj]
   rcases j with _ | _ | _ | _ | j
   .rfl
   .rfl
   .rfl
   .rfl
   .omega
  .have hd1:=hd.del (b:=b) ht0 z7
   have hx1:=r1.del (b:=b) ht0 z7
   refine aaS (tag:=tag1) (hd1.read hs2) hs2 ?_ (by simp[qf]) fun s' tag2 I2 st2 r2=>?_
   .have:=hdl _ _ hl;simp;omega
   .have hx2:=hx1.keep (st2 [])
    refine hx2.stAll (st2 []).sep rfl (by simp[qf]) fun I3 st3 r3=>?_
    intro hdj
    have stB:=((st2 [0]).trans st3).back hs1 hdj hto
    have r4:=r3.back (r':=tag1 b) hdj hto
    have r5:=(r2.keep st3).back (r':=tag1 b) hdj hto
    obtain⟨q,hq,hg⟩:=r4.ptr stB.sep z8
    cases hq
    refine⟨n.ver,n.ctr,n.own,n.kids,zt 0 fun j v hj=>by have:=hg j v hj;rwa [mV,<-ml j]at this,?_⟩
    exact hhit n hl s' _ _ (((st1 []).c z8).trans (stB.c z8)) r5
theorem ark{s:Str}{K:Value->AH->Prop}(h:adA B ro (S s) ⟨x,0,none⟩ I fun r I=>K (.bool r) I):adQ prog B ro (.func (.func 85) #[] #[.pointer (some ⟨x,0,none⟩)]) [.string (S s)] I K:=by
 refine⟨85,f85,#[],#[.pointer (some ⟨x,0,none⟩)],rfl,func85,y1,y1,?_⟩
 exact qc.mono h fun v τ ⟨r,e,q⟩=>e▸q
theorem ap7(g:wW ro)(hr:r<64)(hr0:r≠0)(h:qU tag I r T M bs st)(hl:∀ p∈st,∃ps,parts p.1=some ps)(hn:st.length<=4398046511104)
  (hQ:∀ (s:Sl) (tag':Nat->Nat) (I':AH) (ks:List Str),(∀R,qd R ro tag I tag' I')->ks.Perm (st.map (·.1))->ks.Pairwise (· <= ·)->Row tag' I' q 9 s (ks.map Pa.vS)->Q s 0 I'):yo B ro (some ⟨T,0,none⟩) (⟨#[47]⟩:ByteArray) I Q:=by
 refine aej fun hs=>?_
 unfold uB
 refine qh (tag:=tag) 0 hs fun x tag1 I1 st1 r1=>?_
 have hA:=h.keep (st1 [])
 refine⟨_,Row.cell1 r1 (st1 []).sep,?_⟩
 refine pN g ?_
 rw[show Pa.chk (L (⟨#[47]⟩:ByteArray))=0 from by decide,ma y0]
 have h128:∀ p∈st,p.1.length<=128:=fun p hp=>by
  obtain⟨ps,e⟩:=hl p hp
  obtain⟨e1,e2⟩:=qW.1 e
  rw[e1];exact e2.len
 refine aga (q:=q) hA h128 hn fun s tag2 I2 ks st2 hp hsrt hr2=>?_
 have hx:=Row.cell1 (r1.keep (st2 [])) (st2 []).sep
 have hln:s.len=ks.length:=by rw[hr2.len,mi]
 have hkl:ks.length=st.length:=by rw[hp.length_eq,mi]
 refine yV fun _=>?_
 unfold vJ
 refine pt fun _=>?_
 unfold vV
 suffices∀m j,j+m=ks.length->lfpD (qS B ro s (.func (.func 85) #[] #[.pointer (some ⟨x,0,none⟩)]) fun x10 I=>if x10=(-1)then Q s 0 I else lfpD (wb B ro s (.func (.func 85) #[] #[.pointer (some ⟨x,0,none⟩)]) fun x15 I=>Q x15 0 I) (x10,i64.wrap (x10+1)) I) (j:Int) I2 from
  this _ 0 (ml _)
 intro m
 induction m with
 | zero=>
  intro j hj
  refine lfpD.intro ?_
  unfold qS
  rw[ma z7]
  unfold zF
  show(if(-1:Int)= -1 then _ else _)
  rw[mc rfl]
  exact hQ s tag2 I2 ks (fun R=>(st1 R).trans (st2 R)) hp hsrt hr2
 | succ m ih=>
  intro j hj
  have hjl:j<ks.length:=by omega
  obtain⟨p,hpp,_,hget⟩:=Row.sget hr2 (st2 []).sep hjl
  refine lfpD.intro ?_
  unfold qS
  rw[mc z7]
  refine⟨p,hpp,z7,z7,_,hget j hjl,?_⟩
  refine ark ?_
  refine acJ fun _=>?_
  unfold yJ
  refine⟨_,hx,?_⟩
  have hmem:ks[j]∈st.map (·.1):=hp.mem_iff.1 (mG hjl)
  obtain⟨y,hy,e⟩:=mC.1 hmem
  obtain⟨ps,hps⟩:=hl y hy
  rw[e]at hps
  have hu:ace (L (⟨#[47]⟩:ByteArray)) (L (S ks[j]))=some true:=by
   unfold ace
   rw[show parts (L (⟨#[47]⟩:ByteArray))=some []from by decide,L_S,hps]
   try rfl
  refine anK g (fun hnone=>by rw[hu]at hnone;cases hnone) (fun b hb=>?_)
  rw[hu]at hb
  cases hb
  refine⟨false,rfl,?_⟩
  rw[ma y0,Pa.inc j z7]
  exact ih (j+1) z7
def jX(ks:List Str)(p:Str):List Str:=ks.filterMap fun k=>if qv k=some p then base k else none
theorem aox(g:wW ro)(hr:r<64)(hr0:r≠0)(hq0:q≠q+1)(h:qU tag I r T M bs st)(hl:∀ p∈st,∃ps,parts p.1=some ps)(hn:st.length<=4398046511104)
  (hbad:parts (L p)=none->Q ⟨none,0,0⟩ 20 I) (hmiss:∀ ps,parts (L p)=some ps->st.lookup (L p)=none->Q ⟨none,0,0⟩ 70 I)
  (hhit:∀ n,st.lookup (L p)=some n->∀ (s:Sl) (tag':Nat->Nat) (I':AH) (ks:List Str),qd [q] ro tag I tag' I'->ks.Perm (st.map (·.1))->ks.Pairwise (· <= ·)->Row tag' I' q 9 s ((jX ks (L p)).map Pa.vS)->Q s 0 I'):aaq B ro (some ⟨T,0,none⟩) p I Q:=by
 refine ag2 fun hs=>?_
 unfold aas
 refine alU g h hs (fun hb=>?_) (fun ps hps hl'=>?_) (fun ps i b n hps hb hp hl'=>?_)
 .rw[mc y0];exact hbad hb
 .rw[mc y0];exact hmiss ps hps hl'
 .rw[ma y0]
  have h128:∀ p∈st,p.1.length<=128:=fun p hp=>by
   obtain⟨ps,e⟩:=hl p hp
   obtain⟨e1,e2⟩:=qW.1 e
   rw[e1];exact e2.len
  refine aga (q:=q+1) h h128 hn fun s tag2 I2 ks st2 hpm hsrt hr2=>?_
  have hln:s.len=ks.length:=by rw[hr2.len,mi]
  have hkl:ks.length=st.length:=by rw[hpm.length_eq,mi]
  suffices∀m j (so:Sl) tag3 I3,j+m=ks.length->qd [q] ro tag2 I2 tag3 I3->Row tag3 I3 (q+1) 9 s (ks.map Pa.vS)->Row tag3 I3 q 9 so ((jX (ks.take j) (L p)).map Pa.vS)->lfpD (kf B ro p s Q) (so,(j:Int)) I3 from
   this _ 0 ⟨none,0,0⟩ tag2 I2 (ml _) (qd.refl (st2 []).sep) hr2 (Row.nil q 9)
  intro m
  induction m with
  | zero=>
   intro j so tag3 I3 hj st3 hs3 hso
   refine lfpD.intro ?_
   unfold kf
   simp only
   rw[ma z7]
   unfold yg
   rw[mH z7]at hso
   exact hhit n hl' so tag3 I3 ks ((st2 _).trans st3) hpm hsrt hso
  | succ m ih=>
   intro j so tag3 I3 hj st3 hs3 hso
   have hjl:j<ks.length:=by omega
   obtain⟨pp,hpp,_,hget⟩:=Row.sget hs3 st3.sep hjl
   have htake:∀ x,jX (ks.take (j+1)) x=jX (ks.take j) x++jX [ks[j]] x:=fun x=>by
    rw[List.take_succ_eq_append_getElem hjl];unfold jX;rw[List.filterMap_append]
   have hlen:(jX (ks.take j) (L p)).length<=j:=by
    unfold jX
    refine Lt (List.length_filterMap_le _ _) ?_
    simp;omega
   refine lfpD.intro ?_
   unfold kf
   simp only
   rw[mc z7]
   refine⟨pp,hpp,z7,z7,_,hget j hjl,?_⟩
   have skip:qv ks[j]≠some (L p)->vk B ro p s (j:Int) Q (lfpD (kf B ro p s Q)) so I3:=fun hne=>by
    unfold vk
    rw[Pa.inc j z7]
    refine ih (j+1) so tag3 I3 z7 st3 hs3 ?_
    rw[htake,show jX [ks[j]] (L p)=[] by simp[jX,hne],ny];exact hso
   refine aeT g (fun hnone=>?_) (fun u hu=>?_)
   .rw[ma z8]
    exact skip (by rw[L_S]at hnone;rw[hnone];simp)
   .rw[L_S]at hu
    by_cases hup:u=L p
    .rw[mc ⟨rfl,by rw[hup,S_L]⟩]
     have hbase:∃ x,base ks[j]=some x:=by
      unfold qv at hu
      unfold base
      cases hq:parts ks[j]with
      | none=>rw[hq]at hu;cases hu
      | some qs=>
       rw[hq]at hu
       simp only at hu⊢
       split at hu
       .cases hu
       .rename_i hne
        exact⟨_,List.getLast?_eq_some_getLast hne⟩
     obtain⟨x,hx⟩:=hbase
     refine at9 g (fun hnone=>by rw[L_S,hx]at hnone;cases hnone) (fun y hy=>?_)
     rw[L_S,hx]at hy
     cases hy
     refine qh (tag:=tag3) 0 st3.sep fun c tag4 I4 st4 r4=>?_
     refine aeE (hso.keep (st4 [])) (st4 []).sep t25 ty9 rfl rfl (Row.cell1 r4 (st4 []).sep) rfl (by rw[mi];omega) y0 fun s' tag5 I5 st5 r5=>?_
     refine⟨s',rfl,?_⟩
     unfold vk
     rw[Pa.inc j z7]
     refine ih (j+1) s' tag5 I5 z7 (st3.trans ((st4 _).trans st5)) ((hs3.keep (st4 [])).keep st5) ?_
     rw[htake,show jX [ks[j]] (L p)=[x] by simp[jX,hu,hup,hx],mB]
     exact r5
    .rw[ma (fun h'=>hup (by rw[<-h'.2,L_S]))]
     exact skip (by rw[hu];intro h';exact hup (mA h'))
end Zt
namespace G
open Go SL
variable{B:World}{ro I:AH}
def agc(B:World)(ro:AH)(a0:Sl)(I:AH)(Q:Sl->AH->Prop):=
 nw ro I (.cells #[Sl.v a0] 24) fun u0 I=>
 ai2 B ro (⟨some ⟨u0,0,none⟩,1,1⟩:Sl) I fun u1 I=>
 Q u1 I
theorem ana{a0 Q}(h:Sep ro I->agc B ro a0 I Q):adV B ro a0 I Q:=by
 refine zb h func16 ntmps16 fun h=>?_;unfold agc at h;refine zw ?_;refine zA (zo (vs:=[(0,Sl.v a0)]) (cs:= #[Sl.v a0]) rfl Lw wu y0 rfl rfl) h fun u0 h=>?_;refine zc func50 h ?_;rintro v I ⟨u1,rfl,h⟩;exact zr h
def acZ(B:World)(ro:AH)(Q:Sl->AH->Prop)(u0:Sl)(I:AH):=
 Q u0 I
def afk(B:World)(ro:AH)(a0:Sl)(Q:Sl->AH->Prop):(Sl×Int)->AH->((Sl×Int)->AH->Prop)->Prop:=fun⟨u0,u1⟩ I Y4=>
 if u1<(a0.len:Int)then
 ∃p2,a0.a=some p2/\(0:Int)<=u1/\u1<(a0.len:Int)/\
 ∃u3,qa ro I (p2.add (Int.toNat u1*1))=some (Sl.v u3)/\
 awp prog ro (Builtin.append_ #[24,24] 24 #[Sl.v u0,Sl.v u3]) (fun v I=> ∃(u4:Sl),v=Sl.v u4/\
  Y4 (u4,i64.wrap (u1+1)) I) I
 else
 acZ B ro Q u0 I
def agd(B:World)(ro:AH)(a0:Sl)(I:AH)(Q:Sl->AH->Prop):=
 nw ro I (.cells #[] 5) fun u0 I=>
 lfpD (afk B ro a0 Q) ((⟨some ⟨u0,0,none⟩,0,0⟩:Sl),0) I
theorem anb{a0 Q}(h:Sep ro I->agd B ro a0 I Q):ai2 B ro a0 I Q:=by
 refine zb h func50 ntmps50 fun h=>?_;unfold agd at h;refine zw ?_;refine zAp (zo (vs:=[]) (cs:= #[]) rfl mp ty5 y0 rfl rfl) h fun u0 h=>?_;refine AW.seqJ (fun fr I=> ∃(u1:Sl),ql [(3,Sl.v u1)] fr/\acZ B ro Q u1 I) ?_ ?_
 .rintro fr I ⟨u1,hl,h⟩;refine AW.weaken ?_ hl (HLe.refl _)
  unfold acZ at h;exact zr h
 refine zw ?_;refine qi.loop (fr':=[(0,Sl.v a0),(3,Sl.v (⟨some ⟨u0,0,none⟩,0,0⟩:Sl)),(4,.int .i64 0)]) ?_ FL
 refine h (fun⟨u2,u3⟩ I=>qi _ _ _ _ _ _ [(0,Sl.v a0),(3,Sl.v u2),(4,.int .i64 u3)] I) ?_
 rintro⟨u2,u3⟩ I Y4 hY4 h
 show AW _ _ _ _ _ _ _ _
 unfold afk at h;dsimp only at h;refine AW.seq ?_;refine zw ?_;refine zm (qA rfl rfl Lw rfl rfl) ?_;refine zi h (fun h=>?_) fun h=>?_
 rotate_left
 .refine AW.exit ?_;refine zw ?_;refine qT ?_
  refine zw ?_;exact⟨_,FL,h⟩
 refine zw ?_;refine AW.seq ?_;refine zw ?_;obtain⟨p4,ha,h0,h1,h⟩:=h
 refine zm (zP rfl Lw wu (ixL rfl ha) rfl h0 h1) ?_;refine zL mp h fun u5 h=>?_;refine zl (kP (s:=Builtin.append_ #[24,24] 24 #[Sl.v u2,Sl.v u5]) rfl rfl (fun _=>rfl) (qj _ h ?_))
 rintro v I ⟨u6,rfl,h⟩;refine zw ?_;refine qi.head (fr':=[(0,Sl.v a0),(3,Sl.v u6),(4,.int .i64 (i64.wrap (u3+1)))]) ?_ FL
 exact hY4 _ _ h
def adh(B:World)(ro:AH)(a0:Sl)(I:AH)(Q:Sl->AH->Prop):=
 ((0:Int)<=(a0.len:Int)/\(a0.len:Int)<=(a0.len:Int)/\((a0.len:Int):Int)<=281474976710656/\8*((a0.len:Int):Int)<=281474976710656)/\
 nw ro I (.cells (aaG (.int .i64 0) (Int.toNat (a0.len:Int)*1)) 3) fun u0 I=>
 awp prog ro (Builtin.copy_ #[55,55] 3 #[Sl.v (⟨some ⟨u0,0,none⟩,Int.toNat (a0.len:Int),Int.toNat (a0.len:Int)⟩:Sl),Sl.v a0]) (fun v I=> ∃(u1:Int),v= .int .i64 u1/\
 Q (⟨some ⟨u0,0,none⟩,Int.toNat (a0.len:Int),Int.toNat (a0.len:Int)⟩:Sl) I) I
theorem aj4{a0 Q}(h:Sep ro I->adh B ro a0 I Q):ac5 B ro a0 I Q:=by
 refine zb h func76 ntmps76 fun h=>?_;unfold adh at h;refine zw ?_;refine zm (qA rfl rfl mR rfl rfl) ?_;obtain⟨⟨h0,h1,h2,h3⟩,h⟩:=h
 refine zAp (atJ rfl mR ty3 rfl rfl h0 h1 h2 h3) h fun u0 h=>?_;refine zl (kP (s:=Builtin.copy_ #[55,55] 3 #[Sl.v (⟨some ⟨u0,0,none⟩,Int.toNat (a0.len:Int),Int.toNat (a0.len:Int)⟩:Sl),Sl.v a0]) rfl rfl (fun _=>rfl) (qj _ h ?_))
 rintro v I ⟨u1,rfl,h⟩;exact zr h
end G
namespace Zt
open Go SL G Pa
variable{B:World}{ro I I':AH}{tag tag':Nat->Nat}
theorem aeW{ψ:AH}(g:wW ro):wW (join ro ψ):=by
 obtain⟨m,o,h1,h2⟩:=g.maxlen
 exact⟨⟨m,o,xk h1,h2⟩,fun w hw=>g.tab w fun b o hb=>hw b o (xk hb)⟩
theorem copy_ok{s:Sl}{l:List Value}{Q:Sl->AH->Prop}(h:SL.wy ro I s l)(hs:SL.Sep ro I)(hl:l.length<=140737488355328)(hv:∀ v∈l,qf v=true)(hQ:∀ s' tag' I',(∀R,qd R ro tag I tag' I')->Row tag' I' 6 5 s' l->Q s' I'):adV B ro s I Q:=by
 refine ana fun _=>?_
 unfold agc
 refine qh (tag:=tag) 0 hs fun b tag1 I1 st1 r1=>?_
 refine anb fun _=>?_
 unfold agd
 refine qh (tag:=tag1) 6 (st1 []).sep fun c tag2 I2 st2 r2=>?_
 have r1':=r1.keep (st2 [])
 have h2:SL.wy ro I2 s l:=(h.step (st1 [])).step (st2 [])
 refine lfpD.intro ?_
 unfold afk
 simp only
 rw[mc y0]
 obtain⟨p,hp,hg⟩:=r1'.ptr (st2 []).sep z8
 cases hp
 refine⟨_,rfl,y0,y0,s,hg 0 _ rfl,?_⟩
 refine abg r2 (st2 []).sep h2 u30 ty5 rfl hv j0 y0 fun s' tag3 I3 st3 r3=>?_
 refine⟨s',rfl,?_⟩
 rw[show i64.wrap (0+1)=1 from by decide]
 refine lfpD.intro ?_
 show(if(1:Int)<((1:Nat):Int)then _ else _)
 rw[ma y0]
 unfold acZ
 exact hQ s' tag3 I3 (fun R=>(st1 R).trans ((st2 R).trans (st3 R (.inl rfl)))) r3
end Zt
namespace Zt
open Go SL Pa Wi
theorem ag7(st:St)(p d:Str)(o:Int)(seq:Bool):(∃e,e≠0/\wo st p d o seq=(st,[],e))\/
  ∃q u n,wo st p d o seq=(wv (st++[(q,⟨0,0,o,0,d⟩)]) u jg,q,0)/\st.lookup u=some n/\n.own=0/\¬ 9999999999<n.ctr/\st.lookup q=none/\qv q=some u/\d.length<=256/\0<=o/\o<=4611686018427387903:=by
 unfold wo
 cases hp:qv p with
 | none=>exact .inl ⟨20,y0,rfl⟩
 | some u=>
  simp only
  by_cases h1:256<d.length
  .rw[mc h1];exact .inl ⟨75,y0,rfl⟩
  rw[ma h1]
  by_cases h2:o<0\/4611686018427387903<o
  .rw[mc h2];exact .inl ⟨10,y0,rfl⟩
  rw[ma h2]
  cases hn:st.lookup u with
  | none=>exact .inl ⟨70,y0,rfl⟩
  | some n=>
   simp only
   by_cases h3:n.own≠0
   .rw[mc h3];exact .inl ⟨74,y0,rfl⟩
   rw[ma h3]
   by_cases h4:9999999999<n.ctr
   .rw[mc h4];exact .inl ⟨76,y0,rfl⟩
   rw[ma h4]
   have fin:∀ q,qv q=some u->(∃e,e≠0/\(if(st.lookup q).isSome=true then(st,([]:Str),(71:Int))else(wv (st++[(q,⟨0,0,o,0,d⟩)]) u jg,q,0))=(st,[],e))\/
     ∃q' u' n',(if(st.lookup q).isSome=true then(st,([]:Str),(71:Int))else(wv (st++[(q,⟨0,0,o,0,d⟩)]) u jg,q,0))=(wv (st++[(q',⟨0,0,o,0,d⟩)]) u' jg,q',0)/\st.lookup u'=some n'/\n'.own=0/\¬ 9999999999<n'.ctr/\st.lookup q'=none/\qv q'=some u'/\d.length<=256/\0<=o/\o<=4611686018427387903:=fun q hq=>by
    by_cases h5:(st.lookup q).isSome=true
    .rw[mc h5];exact .inl ⟨71,y0,rfl⟩
    .rw[ma h5]
     exact .inr ⟨q,u,n,rfl,hn,j2 h3,h4,(by
      cases e:st.lookup q with
      | none=>rfl
      | some y=>rw[e]at h5;exact mu rfl h5),hq,z7,z7,z7⟩
   by_cases hs:seq=true
   .rw[mc hs]
    cases hsf:pP p n.ctr with
    | none=>exact .inl ⟨20,y0,rfl⟩
    | some q=>
     obtain⟨ps,_,hpq⟩:=acX hsf
     exact fin q (by rw[hpq,hp])
   .rw[ma hs]
    exact fin p hp
theorem uS(st:St)(p:Str)(v:Int):(∃e,e≠0/\wq st p v=(st,e))\/
  ∃n u,wq st p v=(jh (wv st u xX) p,0)/\st.lookup p=some n/\p≠[47]/\qv p=some u/\¬ 0<n.kids:=by
 unfold wq
 by_cases h0:p=[47]\/parts p=none
 .rw[mc h0];exact .inl ⟨20,y0,rfl⟩
 rw[ma h0]
 cases hn:st.lookup p with
 | none=>exact .inl ⟨70,y0,rfl⟩
 | some n=>
  simp only
  by_cases h1:v≠ -1/\v≠n.ver
  .rw[mc h1];exact .inl ⟨72,y0,rfl⟩
  rw[ma h1]
  by_cases h2:0<n.kids
  .rw[mc h2];exact .inl ⟨73,y0,rfl⟩
  rw[ma h2]
  simp only[not_or]at h0
  obtain⟨ps,hps⟩:∃ ps,parts p=some ps:=by
   cases e:parts p with
   | none=>exact mu e h0.2
   | some ps=>exact⟨ps,rfl⟩
  obtain⟨u,hu⟩:=akj hps h0.1
  rw[hu]
  exact .inr ⟨n,u,rfl,rfl,h0.1,rfl,h2⟩
theorem agF(st:St)(p d:Str)(v:Int):(∃e,e≠0/\xd st p d v=(st,0,e))\/
  ∃n,xd st p d v=(wv st p (ad3 d),i64.wrap (n.ver+1),0)/\st.lookup p=some n/\p≠[47]/\d.length<=256:=by
 unfold xd
 by_cases h0:p=[47]\/parts p=none
 .rw[mc h0];exact .inl ⟨20,y0,rfl⟩
 rw[ma h0]
 by_cases h1:256<d.length
 .rw[mc h1];exact .inl ⟨75,y0,rfl⟩
 rw[ma h1]
 cases hn:st.lookup p with
 | none=>exact .inl ⟨70,y0,rfl⟩
 | some n=>
  simp only
  by_cases h2:v≠ -1/\v≠n.ver
  .rw[mc h2];exact .inl ⟨72,y0,rfl⟩
  rw[ma h2]
  simp only[not_or]at h0
  exact .inr ⟨n,rfl,rfl,h0.1,z7⟩
structure wm(b:Nat)(st:St):Prop where
 inv:Inv st
 ver:∀ k n,st.lookup k=some n->0<=n.ver/\n.ver<=b
 own:∀ k n,st.lookup k=some n->0<=n.own/\n.own<=4611686018427387903/\(n.own≠0->n.ctr=0)
 rt:∀ n,st.lookup [47]=some n->n.data=[]/\n.ver=0/\n.own=0
 len:st.length<=b+1
theorem wm.mono{b c:Nat}{st:St}(h:wm b st)(hc:b<=c):wm c st:=
 ⟨h.inv,fun k n hk=>by have:=h.ver k n hk;omega,h.own,h.rt,by have:=h.len;omega⟩
theorem Inv.ctr0{st:St}(h:Inv st){k:Str}{n:Nd}(hk:st.lookup k=some n):0<=n.ctr:=by
 have h1:=h.kids k n hk
 have h2:=(h.ctr k n hk).1
 omega
theorem wm.inv3{b:Nat}{st:St}(h:wm b st)(hb:b<=4611686018427387903):aji st:=by
 refine⟨h.inv,fun k n hk=>⟨?_,(h.own k n hk).2.2⟩,h.rt⟩
 have h1:=h.ver k n hk
 have h2:=h.own k n hk
 have h3:=h.inv.ctr k n hk
 have h4:=h.inv.ctr0 hk
 unfold yt qK
 simp only[mw,mP]
 omega
theorem asG:wm 0 St.new:=by
 have hl:∀ k n,St.new.lookup k=some n->n=⟨0,0,0,0,[]⟩:=fun k n h=>by
  unfold St.new at h
  rw[mY]at h
  split at h
  .exact(mA h).symm
  .cases h
 refine⟨auf,fun k n h=>?_,fun k n h=>?_,fun n h=>?_,y0⟩
 .rw[hl k n h];decide
 .rw[hl k n h];decide
 .rw[hl _ n h];exact⟨rfl,rfl,rfl⟩
theorem ako{b:Nat}{st:St}{p d:Str}{o:Int}{seq:Bool}(h:wm b st)(hb:b<=4398046511103):wm (b+1) (wo st p d o seq).1:=by
 have hi:=ap3 (p:=p) (d:=d) (o:=o) (seq:=seq) h.inv (by have:=h.len;omega)
 have hlen:=ap2 st p d o seq
 rcases ag7 st p d o seq with⟨e,_,he⟩ | ⟨q,u,n,he,hu,hown,hctr,hq,hpq,hd,ho1,ho2⟩
 .rw[he];exact h.mono z7
 .rw[he]at hi hlen⊢
  simp only at hi hlen⊢
  have hl:∀ k m,(wv (st++[(q,⟨0,0,o,0,d⟩)]) u jg).lookup k=some m->(∃m',(st.lookup k=some m'\/(k=q/\m'=⟨0,0,o,0,d⟩))/\(m=m'\/(k=u/\m=jg m'))):=fun k m hk=>by
   rw[zx,aaT]at hk
   have base:∀ x,(match st.lookup k with | some m=>some m | none=>if k=q then some (⟨0,0,o,0,d⟩:Nd)else none)=some x->st.lookup k=some x\/(k=q/\x=⟨0,0,o,0,d⟩):=fun x hx=>by
    cases e:st.lookup k with
    | some y=>rw[e]at hx;exact .inl hx
    | none=>
     rw[e]at hx
     simp only at hx
     split at hx
     .rename_i hkq;exact .inr ⟨hkq,(mA hx).symm⟩
     .cases hx
   split at hk
   .rename_i hku
    obtain⟨m',h1,h2⟩:=nj.1 hk
    exact⟨m',base m' h1,.inr ⟨hku,h2.symm⟩⟩
   .exact⟨m,base m hk,.inl rfl⟩
  refine⟨hi,fun k m hk=>?_,fun k m hk=>?_,fun m hk=>?_,by have:=h.len;omega⟩
  .obtain⟨m',h1,h2⟩:=hl k m hk
   have h3:0<=m'.ver/\m'.ver<=(b+1:Nat):=by
    rcases h1 with h1 | ⟨_,rfl⟩
    .have:=h.ver k m' h1;omega
    .simp only;omega
   rcases h2 with rfl | ⟨_,rfl⟩
   .exact h3
   .exact h3
  .obtain⟨m',h1,h2⟩:=hl k m hk
   rcases h2 with rfl | ⟨hku,rfl⟩
   .rcases h1 with h1 | ⟨_,rfl⟩
    .exact h.own k m h1
    .exact⟨ho1,ho2,fun _=>rfl⟩
   .rcases h1 with h1 | ⟨hkq,_⟩
    .rw[hku,hu]at h1
     obtain rfl:=mA h1
     exact⟨by show 0<=n.own;omega,by show n.own<=_;omega,fun hn=>mu hown hn⟩
    .rw[hkq]at hku
     rw[hku]at hq
     rw[hq]at hu;cases hu
  .obtain⟨m',h1,h2⟩:=hl _ m hk
   have h3:m'.data=[]/\m'.ver=0/\m'.own=0:=by
    rcases h1 with h1 | ⟨hkq,_⟩
    .exact h.rt m' h1
    .rw[<-hkq,ag4]at hpq;cases hpq
   rcases h2 with rfl | ⟨_,rfl⟩
   .exact h3
   .exact h3
theorem akp{b:Nat}{st:St}{p:Str}{v:Int}(h:wm b st)(hb:b<=4398046511103):wm (b+1) (wq st p v).1:=by
 have hi:=ali (p:=p) (v:=v) h.inv (by have:=h.len;omega)
 have hlen:=alh st p v
 rcases uS st p v with⟨e,_,he⟩ | ⟨n,u,he,hn,hne,hu,hk⟩
 .rw[he];exact h.mono z7
 .rw[he]at hi hlen⊢
  simp only at hi hlen⊢
  have hnd:((wv st u xX).map (·.1)).Nodup:=by rw[xA];exact h.inv.keys
  have hl:∀ k m,(jh (wv st u xX) p).lookup k=some m->∃ m',st.lookup k=some m'/\(m=m'\/m=xX m'):=fun k m hk=>by
   rw[yh hnd]at hk
   split at hk
   .cases hk
   .rw[zx]at hk
    split at hk
    .obtain⟨m',h1,h2⟩:=nj.1 hk
     exact⟨m',h1,.inr h2.symm⟩
    .exact⟨m,hk,.inl rfl⟩
  refine⟨hi,fun k m hk=>?_,fun k m hk=>?_,fun m hk=>?_,by have:=h.len;omega⟩
  .obtain⟨m',h1,h2⟩:=hl k m hk
   have:=h.ver k m' h1
   rcases h2 with rfl | rfl
   .omega
   .show 0<=m'.ver/\m'.ver<=_;omega
  .obtain⟨m',h1,h2⟩:=hl k m hk
   have:=h.own k m' h1
   rcases h2 with rfl | rfl
   .exact this
   .exact this
  .obtain⟨m',h1,h2⟩:=hl _ m hk
   have:=h.rt m' h1
   rcases h2 with rfl | rfl
   .exact this
   .exact this
theorem asH{b:Nat}{st:St}{p d:Str}{v:Int}(h:wm b st)(hb:b<=4398046511103):wm (b+1) (xd st p d v).1:=by
 have hi:=aui (p:=p) (d:=d) (v:=v) h.inv
 have hlen:=asz st p d v
 rcases agF st p d v with⟨e,_,he⟩ | ⟨n,he,hn,hne,hd⟩
 .rw[he];exact h.mono z7
 .rw[he]at hi hlen⊢
  simp only at hi hlen⊢
  have hl:∀ k m,(wv st p (ad3 d)).lookup k=some m->∃ m',st.lookup k=some m'/\(m=m'\/(k=p/\m=ad3 d m')):=fun k m hk=>by
   rw[zx]at hk
   split at hk
   .rename_i hkp
    obtain⟨m',h1,h2⟩:=nj.1 hk
    exact⟨m',h1,.inr ⟨hkp,h2.symm⟩⟩
   .exact⟨m,hk,.inl rfl⟩
  refine⟨hi,fun k m hk=>?_,fun k m hk=>?_,fun m hk=>?_,by have:=h.len;omega⟩
  .obtain⟨m',h1,h2⟩:=hl k m hk
   have:=h.ver k m' h1
   rcases h2 with rfl | ⟨_,rfl⟩
   .omega
   .show 0<=i64.wrap (m'.ver+1)/\i64.wrap (m'.ver+1)<=_
    rw[wd z7 z7];omega
  .obtain⟨m',h1,h2⟩:=hl k m hk
   have:=h.own k m' h1
   rcases h2 with rfl | ⟨_,rfl⟩
   .exact this
   .exact this
  .obtain⟨m',h1,h2⟩:=hl _ m hk
   rcases h2 with rfl | ⟨hkp,_⟩
   .exact h.rt m h1
   .exact mu hkp.symm hne
theorem Inv.small{st:St}(h:Inv st):∀ p∈st,p.1.length<=128/\p.2.data.length<=256:=fun p hp=>by
 have hl:=(qO h.keys (k:=p.1) (n:=p.2)).2 hp
 obtain⟨ps,hps⟩:=h.path _ _ hl
 obtain⟨e,hg⟩:=qW.1 hps
 exact⟨by rw[e];exact hg.len,h.data _ _ hl⟩