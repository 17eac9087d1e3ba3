import Derived.Test.YtomdigihapdhnaaGreatDoorXF
set_option linter.all false
set_option maxRecDepth 99999
set_option maxHeartbeats 0
open Go.IntKind(i64)
open Go.Proofs.Tryz
namespace Go.Proofs.YtomdigihapdhnaaGreatDoor
namespace Wi
open Go SL
variable{e n:Nat}{d l:Str}
def qO(n:Nat):Str:=if n<128 then [UInt8.ofNat n]else UInt8.ofNat (n%128+128)::qO (n / 128)
termination_by n
decreasing_by omega
def val:Str->Nat
 | []=>0
 | c::r=>c.toNat%128+128*val r
def uD:Nat->Str->Option Nat
 | 0,_=>none
 | _+1,[]=>none
 | k+1,c::r=>if c.toNat<128 then some 0 else(uD k r).map (· +1)
def num(l:Str):Nat×Nat×Int:=
 match uD 9 l with
 | none=>(0,0,if l.length<9 then 12 else 13)
 | some k=>if(0<k/\l[k]?=some 0)\/4611686018427387904<=val (l.take (k+1))then(0,0,13)else(val (l.take (k+1)),k+1,0)
theorem an5(c:UInt8):c.toNat<256:=c.toNat_lt
theorem aeN(n:Nat)(h:n<256):(UInt8.ofNat n).toNat=n:=y6
theorem alJ{c d:UInt8}(h:c.toNat=d.toNat):c=d:=UInt8.toNat_inj.1 h
theorem afP:∀ (m:Nat) (l:Str) (k:Nat),uD m l=some k->k<m/\k<l.length/\(∀i c,i<k->l[i]?=some c->128<=c.toNat)/\∃ c,l[k]?=some c/\c.toNat<128:=by
 intro m
 induction m with
 | zero=>intro l k h;cases h
 | succ m ih=>
  intro l k h
  cases l with
  | nil=>cases h
  | cons c r=>
   unfold uD at h
   split at h
   .rename_i hc
    cases h
    exact⟨z6,z7,fun i c hi=>by omega,c,rfl,hc⟩
   .rename_i hc
    obtain⟨k',hk',rfl⟩:=Li.1 h
    obtain⟨h1,h2,h3,h4⟩:=ih r k' hk'
    refine⟨z6,y6,fun i d hi hd=>?_,j1 h4⟩
    rcases i with _ | i
    .cases hd;omega
    .exact h3 i d z6 (j1 hd)
theorem am5:∀ (m:Nat) (l:Str) (k:Nat) (d:UInt8),k<m->(∀i c,i<k->l[i]?=some c->128<=c.toNat)->l[k]?=some d->d.toNat<128->uD m l=some k:=by
 intro m
 induction m with
 | zero=>intro l k d h;omega
 | succ m ih=>
  intro l k d hk hall hd hsm
  cases l with
  | nil=>cases hd
  | cons c r=>
   unfold uD
   rcases k with _ | k
   .cases hd;rw[me hsm]
   .rw[mc (by have:=hall 0 c z6 rfl;omega),ih r k d z6 (fun i e hi he=>hall (i+1) e z6 (j1 he)) (j1 hd) hsm];rfl
theorem ac9:∀ (m:Nat) (l:Str),(∀i c,i<m->l[i]?=some c->128<=c.toNat)->uD m l=none:=by
 intro m l h
 cases e:uD m l with
 | none=>rfl
 | some k=>
  obtain⟨h1,_,_,c,hc,h4⟩:=afP m l k e
  have:=h k c h1 hc
  omega
theorem agS:∀ (l:Str) (k:Nat),val (l.take k)<128 ^ k:=by
 intro l
 induction l with
 | nil=>intro k;simp[val];exact Nat.pow_pos z8
 | cons c r ih=>
  intro k
  cases k with
  | zero=>simp[val]
  | succ k=>
   have:=ih k
   simp only[List.take_succ_cons,val]
   have:=LQ c.toNat (show 0<128 by decide)
   rw[Nat.pow_succ]
   omega
theorem aiY(l:Str)(c:UInt8):val (l++[c])=val l+128 ^ l.length*(c.toNat%128):=by
 induction l with
 | nil=>simp[val]
 | cons d l ih=>simp only[nq,val,ih,mA,Nat.pow_succ];rw[Nat.mul_add,<-Nat.mul_assoc,Lk 128 (128 ^ l.length)];omega
theorem aql:∀ (m:Nat) (l:Str) (k:Nat),uD m l=some k->(k=0\/l[k]?≠some 0)->qO (val (l.take (k+1)))=l.take (k+1)/\(0<k->0<val (l.take (k+1))):=by
 intro m
 induction m with
 | zero=>intro l k h;cases h
 | succ m ih=>
  intro l k h hz
  cases l with
  | nil=>cases h
  | cons c r=>
   unfold uD at h
   split at h
   .rename_i hc
    cases h
    refine⟨?_,fun h=>by omega⟩
    simp only[List.take_succ_cons,Lz,val,Nat.mul_zero,Nat.add_zero,Lf hc]
    unfold qO
    rw[me hc]
    simp
   .rename_i hc
    obtain⟨k',hk',rfl⟩:=Li.1 h
    have hne:(k'=0\/r[k']?≠some 0)/\r[k']?≠some 0:=by
     rcases hz with h0 | h0
     .omega
     .have:r[k']?≠some 0:=by simpa using h0
      exact⟨.inr this,this⟩
    obtain⟨h1,h2⟩:=ih r k' hk' hne.1
    obtain⟨_,h3,_,d,hd,hd'⟩:=afP m r k' hk'
    have hpos:0<val (r.take (k'+1)):=by
     rcases nz k' with h0 | h0
     .subst h0
      cases r with
      | nil=>cases hd
      | cons e r=>
       cases hd
       simp only[List.take_succ_cons,Lz,val,Nat.mul_zero,Nat.add_zero,Lf hd']
       rcases nz d.toNat with h5 | h5
       .exact mC (by rw[show d=0 from alJ h5];try rfl) hne.2
       .exact h5
     .exact h2 h0
    have hc256:=an5 c
    refine⟨?_,fun _=>?_⟩
    .simp only[List.take_succ_cons,val]
     unfold qO
     rw[mc z6,show(c.toNat%128+128*val (List.take (k'+1) r)) / 128=val (List.take (k'+1) r) by omega,h1]
     congr 1
     refine alJ ?_
     rw[aeN _ z6];omega
    .simp only[List.take_succ_cons,val];omega
theorem am6(n:Nat):qO n≠[]:=by unfold qO;split<;>simp
theorem al0:∀ (m n:Nat),n<128 ^ (m+1)->1<=(qO n).length/\(qO n).length<=m+1:=by
 intro m
 induction m with
 | zero=>intro n h;unfold qO;rw[me (j1 h)];simp
 | succ m ih=>
  intro n h
  unfold qO
  split
  .simp
  .have:=ih (n / 128) (by rw[Nat.pow_succ]at h;exact Nat.div_lt_of_lt_mul (by rw[Lk];exact h))
   simp;omega
theorem aoR:∀ (m n:Nat) (r:Str),n<128 ^ (m+1)->∃ k,uD (m+1) (qO n++r)=some k/\(qO n).length=k+1/\val (qO n)=n/\(0<k->(qO n)[k]?≠some 0)/\(0<n\/k=0):=by
 intro m
 induction m with
 | zero=>
  intro n r h
  have h:n<128:=by simpa using h
  unfold qO
  rw[me h]
  refine⟨0,?_,rfl,?_,fun h=>by omega,.inr rfl⟩
  .unfold uD;rw[nq];simp only;rw[aeN _ z6,me h]
  .simp only[val];rw[aeN _ z6];omega
 | succ m ih=>
  intro n r h
  by_cases hn:n<128
  .unfold qO
   rw[me hn]
   refine⟨0,?_,rfl,?_,fun h=>by omega,.inr rfl⟩
   .unfold uD;rw[nq];simp only;rw[aeN _ z6,me hn]
   .simp only[val];rw[aeN _ z6];omega
  .obtain⟨k,h1,h2,h3,h4,h5⟩:=ih (n / 128) r (by rw[Nat.pow_succ]at h;exact Nat.div_lt_of_lt_mul (by rw[Lk];exact h))
   rw[qO,mc hn]
   refine⟨k+1,?_,by simp[h2],?_,fun _=>?_,.inl z6⟩
   .rw[nq]
    unfold uD
    rw[aeN _ z6,mc z6,h1];try rfl
   .simp only[val];rw[h3,aeN _ z6];omega
   .rw[List.getElem?_cons_succ]
    rcases nz k with h0 | h0
    .subst h0
     have hlt:n / 128<128\/¬ n / 128<128:=by omega
     rcases hlt with hlt | hlt
     .rw[qO,me hlt]
      simp only[List.getElem?_cons_zero]
      intro e
      have:=mi UInt8.toNat (mQ e)
      rw[aeN _ z6]at this
      simp at this;omega
     .rw[qO,mc hlt]at h2
      have:=nr.2 (am6 (n / 128 / 128))
      rw[mA]at h2;omega
    .exact h4 h0
theorem arA(h:n<4611686018427387904)(r:Str):num (qO n++r)=(n,(qO n).length,0):=by
 obtain⟨k,h1,h2,h3,h4,_⟩:=aoR 8 n r z6
 unfold num
 rw[h1]
 have e1:(qO n++r).take (k+1)=qO n:=by rw[<-h2];simp
 have e2:(qO n++r)[k]?=(qO n)[k]?:=mM z6
 simp only[e1,e2,h3]
 rw[mc,h2]
 rintro(⟨h5,h6⟩ | h5)
 .exact h4 h5 h6
 .omega
theorem ako(h:num l=(n,e,0)):n<4611686018427387904/\0<e/\e<=l.length/\l.take e=qO n:=by
 unfold num at h
 cases hs:uD 9 l with
 | none=>
  rw[hs]at h
  simp only[Prod.mk.injEq]at h
  have:=h.2.2
  split at this<;>omega
 | some k=>
  rw[hs]at h
  simp only at h
  split at h
  .simp at h
  .rename_i hb
   simp only[not_or]at hb
   simp only[Prod.mk.injEq]at h
   obtain⟨rfl,rfl,_⟩:=h
   obtain⟨_,h2,_,_⟩:=afP 9 l k hs
   refine⟨z6,z6,z6,((aql 9 l k hs ?_).1).symm⟩
   rcases nz k with h0 | h0
   .exact .inl h0
   .exact .inr fun h=>hb.1 ⟨h0,h⟩
theorem aoS(h:num l=(n,e,0)):l=qO n++l.drop e:=by
 rw[<-(ako h).2.2.2,List.take_append_drop]
theorem am7(h:(num l).2.2≠0):(num l).1=0/\(num l).2.1=0/\((num l).2.2=12\/(num l).2.2=13):=by
 unfold num at h⊢
 cases hs:uD 9 l with
 | none=>simp only;refine⟨z7,z7,?_⟩;split<;>simp
 | some k=>
  rw[hs]at h
  simp only at h⊢
  split
  .simp
  .rename_i hb;rw[mc hb]at h;simp at h
theorem ajD(l:Str):(num l).2.1<=l.length/\(num l).1<4611686018427387904:=by
 by_cases h:(num l).2.2=0
 .obtain⟨h1,_,h3,_⟩:=ako (l:=l) (n:=(num l).1) (e:=(num l).2.1) (by rw[<-h])
  exact⟨h3,h1⟩
 .obtain⟨h1,h2,_⟩:=am7 h
  rw[h1,h2];exact⟨Nat.zero_le _,z8⟩
def qY(x:Int):Bool:=decide (0<=x) && decide (x<=4611686018427387903)
structure Rd where
 rest:Str
 err:Int
def ue(d:Str):Str:=qO d.length++d
def qa(r:Rd):Nat×Rd:=if r.err≠0 then(0,r)else((num r.rest).1,⟨r.rest.drop (num r.rest).2.1,(num r.rest).2.2⟩)
def rblob(r:Rd):Str×Rd:=
 if(qa r).2.err≠0 then([],(qa r).2)
 else if(qa r).2.rest.length<(qa r).1 then([],⟨r.rest,12⟩)
 else((qa r).2.rest.take (qa r).1,⟨(qa r).2.rest.drop (qa r).1,0⟩)
theorem aag(h:n<4611686018427387904)(r:Str):qa ⟨qO n++r,0⟩=(n,⟨r,0⟩):=by
 unfold qa
 simp only[ne_eq,not_true_eq_false,if_false,arA h,List.drop_left]
theorem akT(h:d.length<4611686018427387904)(r:Str):rblob ⟨ue d++r,0⟩=(d,⟨r,0⟩):=by
 unfold rblob ue
 rw[mI,aag h]
 simp
theorem aah{r:Rd}(h:r.err≠0):qa r=(0,r):=by unfold qa;rw[me h]
theorem ahQ{r:Rd}(h:r.err≠0):rblob r=([],r):=by unfold rblob;rw[aah h,me h]
theorem wV{r:Rd}(h:(qa r).2.err=0):r.err=0:=nL fun hn=>hn (by rw[aah hn]at h;exact h)
theorem pO{r:Rd}(h:(rblob r).2.err=0):r.err=0:=nL fun hn=>hn (by rw[ahQ hn]at h;exact h)
theorem wo{r:Rd}(h:(qa r).2.err=0):(qa r).1<4611686018427387904/\r.rest=qO (qa r).1++(qa r).2.rest:=by
 have h0:=wV h
 unfold qa at h⊢
 rw[mc (by simp[h0])]at h⊢
 have hn:num r.rest=((num r.rest).1,(num r.rest).2.1,0):=by rw[<-h]
 exact⟨(ako hn).1,aoS hn⟩
theorem zB{r:Rd}(h:(rblob r).2.err=0):(rblob r).1.length<4611686018427387904/\r.rest=ue (rblob r).1++(rblob r).2.rest:=by
 unfold rblob at h⊢
 by_cases h1:(qa r).2.err=0
 .rw[mc (by simp[h1])]at h⊢
  by_cases h2:(qa r).2.rest.length<(qa r).1
  .rw[me h2]at h;cases h
  .rw[mc h2]at h⊢
   obtain⟨h3,h4⟩:=wo h1
   have hl:((qa r).2.rest.take (qa r).1).length=(qa r).1:=by simp;omega
   refine⟨by simp only[hl];exact h3,?_⟩
   simp only[ue,hl]
   rw[mI,List.take_append_drop];exact h4
 .rw[me h1]at h;exact mC h h1
theorem alp{r:Rd}(h:(rblob r).2.err≠0):(rblob r).1=[]:=by
 unfold rblob at h⊢
 split
 .rfl
 .split
  .rfl
  .rename_i h1 h2;rw[mc h1,mc h2]at h;exact mC rfl h
end Wi
namespace Zt
open Go SL Pa Wi
variable{ks ps:List Str}{st x:St}{a b k p:Str}
def Srt(x:St):Prop:=x.Pairwise fun a b=>a.1<b.1
theorem agT(a:Str):¬ a<a:=List.lt_irrefl a
theorem akU{c:Str}(h:a<b)(k:b<c):a<c:=List.lt_trans h k
theorem aoT(h:a<b):a<=b:=List.le_of_lt h
theorem ahR(h:a<=b)(hn:a≠b):a<b:=by
 rcases List.le_iff_lt_or_eq.1 h with h | h
 .exact h
 .exact mC h hn
theorem am8:¬ a<=b↔b<a:=List.not_le
theorem Srt.nodup(h:Srt x):(x.map (·.1)).Nodup:=by
 unfold List.Nodup
 rw[LA]
 refine List.Pairwise.imp (R:=fun(a b:Str×Nd)=>a.1<b.1) (fun{a b} (h:a.1<b.1) (e:a.1=b.1)=>agT b.1 (by rw[e]at h;exact h)) h
theorem jC(hk:(st.map (·.1)).Nodup){n:Nd}:st.lookup k=some n↔(k,n)∈st:=by
 induction st with
 | nil=>simp
 | cons p st ih=>
  obtain⟨p,m⟩:=p
  simp only[nx,Lc]at hk
  rw[nA]
  by_cases c:k=p
  .subst c
   rw[show(k == k)=true by simp]
   simp only[mD,Prod.mk.injEq,true_and]
   refine⟨fun h=> .inl (mQ h).symm,fun h=>?_⟩
   rcases h with h | h
   .rw[h]
   .exact mC (my.2 ⟨_,h,rfl⟩) hk.1
  .rw[show(k == p)=false by simpa using c]
   simp only[mD,Prod.mk.injEq,c,false_and,false_or]
   exact ih hk.2
theorem asp:∀ {x y:St},Srt x->Srt y->x.Perm y->x=y:=by
 intro x
 induction x with
 | nil=>intro y _ _ h;exact h.nil_eq
 | cons a x ih=>
  intro y hx hy h
  cases y with
  | nil=>exact mC h.symm.nil_eq z7
  | cons b y=>
   obtain⟨hx1,hx2⟩:=nT.1 hx
   obtain⟨hy1,hy2⟩:=nT.1 hy
   have hab:a=b:=nL fun hn=>by
    have ha:a∈b::y:=h.mem_iff.1 z7
    have hb:b∈a::x:=h.mem_iff.2 z7
    rcases mD.1 ha with e | ha
    .exact hn e
    rcases mD.1 hb with e | hb
    .exact hn e.symm
    exact agT _ (akU (hy1 a ha) (hx1 b hb))
   subst hab
   rw[ih hx2 hy2 ((List.perm_cons a).1 h)]
theorem aqm:∀ {x y:List Str},x.Pairwise (· < ·)->y.Pairwise (· < ·)->x.Perm y->x=y:=by
 intro x
 induction x with
 | nil=>intro y _ _ h;exact h.nil_eq
 | cons a x ih=>
  intro y hx hy h
  cases y with
  | nil=>exact mC h.symm.nil_eq z7
  | cons b y=>
   obtain⟨hx1,hx2⟩:=nT.1 hx
   obtain⟨hy1,hy2⟩:=nT.1 hy
   have hab:a=b:=nL fun hn=>by
    have ha:a∈b::y:=h.mem_iff.1 z7
    have hb:b∈a::x:=h.mem_iff.2 z7
    rcases mD.1 ha with e | ha
    .exact hn e
    rcases mD.1 hb with e | hb
    .exact hn e.symm
    exact agT _ (akU (hy1 a ha) (hx1 b hb))
   subst hab
   rw[ih hx2 hy2 ((List.perm_cons a).1 h)]
theorem akp(h:ks.Pairwise (· <= ·))(hn:ks.Nodup):ks.Pairwise (· < ·):=by
 exact(h.and hn).imp fun{a b} h=>ahR h.1 h.2
def srt(st:St):St:=st.mergeSort fun a b=>decide (a.1<=b.1)
theorem afo(st:St):(srt st).Perm st:=List.mergeSort_perm _ _
theorem am9(hk:(st.map (·.1)).Nodup):Srt (srt st):=by
 have h1:(srt st).Pairwise fun a b=>decide (a.1<=b.1)=true:=List.pairwise_mergeSort (le:=fun(a b:Str×Nd)=>decide (a.1<=b.1))
  (fun a b c h k=>by simp only[mV]at *;exact List.le_trans h k) (fun a b=>by
   simp only[Bool.or_eq_true,mV]
   exact List.le_total a.1 b.1) st
 have h2:((srt st).map (·.1)).Nodup:=((afo st).map _).nodup_iff.2 hk
 unfold List.Nodup at h2
 rw[LA]at h2
 exact(h1.and h2).imp fun{a b} h=>ahR (j1 h.1) h.2
theorem asq(hx:Srt x)(h:x.Perm st):x=srt st:=asp hx (am9 ((h.map _).nodup_iff.1 hx.nodup)) (h.trans (afo st).symm)
theorem aqn(hk:(st.map (·.1)).Nodup)(h:ks.Perm (st.map (·.1)))(hs:ks.Pairwise (· <= ·)):ks=(srt st).map (·.1):=by
 refine aqm (akp hs (h.nodup_iff.2 hk)) ?_ (h.trans ((afo st).map _).symm)
 rw[LA]
 exact am9 hk
def kC(n:Nd):Bool:=qY n.ver && qY n.ctr && qY n.own
def akq(p:Str×Nd):Str:=ue p.1++(ue p.2.data++(qO p.2.ver.toNat++(qO p.2.ctr.toNat++qO p.2.own.toNat)))
def acD(x:St):Str:=x.flatMap akq
def af9(st:St):Str:=if(srt st).all (fun p=>kC p.2)then acD (srt st)else []
def uE(n:Nd):Nd:={n with kids:=i64.wrap (n.kids+1)}
def lay(st:St)(last p:Str)(n:Nd):Option St:=
 if parts p=none\/p<=last\/256<n.data.length\/10000000000<n.ctr\/(n.own≠0/\0<n.ctr)then none
 else if last=[]then(if p=[47]/\n.data=[]/\n.ver=0/\n.own=0 then some (st++[(p,n)])else none)
 else match ws p with
  | none=>none
  | some u=>match st.lookup u with
   | none=>none
   | some m=>if m.own≠0 then none else some (xo st u uE++[(p,n)])
def wi(r:Rd):(Str×Nd)×Rd:=
 let a:=rblob r
 let b:=rblob a.2
 let c:=qa b.2
 let d:=qa c.2
 let e:=qa d.2
 ((a.1,⟨c.1,d.1,e.1,0,b.1⟩),e.2)
def ada:Nat->Rd->St->Str->Option St
 | 0,_,_,_=>none
 | f+1,r,st,last=>
  if r.rest=[]/\last≠[]then some st
  else if(wi r).2.err≠0 then none
  else match lay st last (wi r).1.1 (wi r).1.2 with
   | none=>none
   | some st'=>ada f (wi r).2 st' (wi r).1.1
def dec(b:Str):Option St:=
 match ada (b.length+1) ⟨b,0⟩ [] []with
 | none=>none
 | some st=>if st.all fun p=>decide (p.2.kids<=p.2.ctr)then some st else none
theorem aoU(h:a <+: b)(hn:a≠b):a<b:=by
 obtain⟨t,rfl⟩:=h
 induction a with
 | nil=>
  cases t with
  | nil=>exact mC rfl hn
  | cons c t=>exact List.nil_lt_cons c t
 | cons c a ih=>
  rw[nq,List.cons_lt_cons_iff]
  exact .inr ⟨rfl,ih fun h=>hn (by rw[nq,<-h])⟩
theorem aoV{u:Str}(h:ws p=some u):u<p:=by
 have hne:=akS h
 refine aoU ?_ hne.symm
 unfold ws at h
 cases hp:parts p with
 | none=>rw[hp]at h;cases h
 | some ps=>
  rw[hp]at h
  simp only at h
  split at h
  .cases h
  .rename_i hps
   cases h
   obtain⟨hl,hg⟩:=xZ.1 hp
   rw[hl]
   have e:=List.dropLast_concat_getLast hps
   conv=>rhs;rw[<-e,agk]
   by_cases h0:ps.dropLast=[]
   .rw[h0,me rfl]
    exact⟨ps.getLast hps,rfl⟩
   .rw[mc h0]
    exact List.prefix_append _ _
structure asr(st:St):Prop where
 inv:Inv st
 nums:∀ k n,st.lookup k=some n->kC n=true/\(n.own≠0->n.ctr=0)
 rt:∀ n,st.lookup [47]=some n->n.data=[]/\n.ver=0/\n.own=0
theorem akr(h:parts p=some ps):p≠[]:=fun e=>by
 obtain⟨hl,_⟩:=xZ.1 h
 obtain⟨r,hr⟩:=akk ps
 rw[e,hr]at hl;cases hl
theorem atg(ks:List Str)(u:Str):kc ks u<=ks.length:=by unfold kc;exact List.countP_le_length
end Zt
namespace Zt
open Go SL G Pa Go.Maps Go.Sort Go.Shelf Go.RowKit
variable{B:World}[Zd B]{ro I I':AH}{tag tag':Nat->Nat}
variable{m:KV}{M b c:Nat}{Q:Sl->AH->Prop}
theorem ana:∀ (st:St) (bs:List Nat),bs.length=st.length->(kv st bs).map (·.1)=st.map (·.1):=by
 intro st
 induction st with
 | nil=>intro bs h;cases bs<;>rfl
 | cons p st ih=>
  intro bs h
  cases bs with
  | nil=>simp at h
  | cons b bs=>obtain⟨p,n⟩:=p;unfold kv;rw[nx,ih bs (j1 h)];try rfl
theorem akV(st:St)(bs:List Nat)(h:bs.length=st.length):(kv st bs).length=st.length:=by
 have:=mi List.length (ana st bs h)
 simpa using this
abbrev RT:Value->Option (DataW Unit×List MemPlace):=fun _=>some (.nil,[])
theorem ass{w:World}(hm:xw tag I c b m)(hw:aj9 ro I w)(hs:SL.Sep ro I)(hnd:(m.map (·.1)).Nodup)(hl:∀ p∈m,p.1.length<=128)(hn:m.length<=4398046511104):
  ∃D:DataW Unit,w.ownsMap prog 9 RT b m.length D/\Maps.size D=m.length/\(strKeys D).Perm (m.map (·.1)):=by
 obtain⟨es,clock,hb,he,hbn⟩:=hm.obj
 have hwb:=hw b _ (by unfold SL.rd;rw[hs b _ hb];exact hb)
 have hsz:es.size=m.length:=by have:=mi List.length he;simpa using this
 have hkey:∀ (i:Nat) (h1:i<es.toList.length),∃h2:i<m.length,(es.toList[i]).key= .string (S m[i].1):=fun i h1=>by
  have h2:i<m.length:=by rw[<-hsz];simpa using h1
  refine⟨h2,?_⟩
  have h:=mi (·[i]?) he
  simp only[mq,mh h1,mh h2,Option.map_some]at h
  exact mi Prod.fst (mQ h)
 have hko:∀ (i:Nat) (h1:i<es.toList.length) (h2:i<m.length),WideElems.rd prog 9 RT es.toList[i]=some (.string m[i].1,.nil):=fun i h1 h2=>by
  obtain⟨_,hk⟩:=hkey i h1
  have hlen:=hl _ (mO h2)
  unfold WideElems.rd
  rw[hk]
  have:keyOf prog 9 (.string (S m[i].1))=some (.string m[i].1):=by
   unfold keyOf
   rw[u9]
   show mapKey prog 9 (.string (S m[i].1))=_
   unfold mapKey
   rw[u9]
   show(if(S m[i].1).size<=maxLen then _ else _)=_
   rw[me (by simp only[ae4,maxLen];omega)];rfl
  rw[this];try rfl
 refine⟨.map ((es.toList.map (WideElems.rg prog 9 RT)).foldr DataW.insert []),⟨es,clock,hwb,⟨by rw[hsz];simp only[maxLen];omega,⟨hbn.lt,hbn.nd,?_⟩,?_⟩,z6,rfl⟩,?_,?_⟩
 .have:es.toList.map (·.key)=(m.map (·.1)).map fun k=>Value.string (S k):=by
   apply LP
   .simp[hsz]
   .intro i h1 h2
    simp only[List.getElem_map]
    obtain⟨_,h⟩:=hkey i (j1 h1)
    exact h
  rw[this]
  refine List.Pairwise.map _ (fun a b hab e=>hab ?_) hnd
  simpa [yu]using e
 .intro x hx
  obtain⟨i,hi,rfl⟩:=nv hx
  obtain⟨h2,_⟩:=hkey i hi
  exact⟨_,hko i hi h2⟩
 .show((es.toList.map (WideElems.rg prog 9 RT)).foldr DataW.insert []).length=m.length
  rw[DataW.length_sorted];simp[hsz]
 .show(((es.toList.map (WideElems.rg prog 9 RT)).foldr DataW.insert []).map fun p=>strOf p.1).Perm _
  refine((WideShapes.sorted_perm _).map _).trans ?_
  rw[Lj]
  have:es.toList.map ((fun p:Lit×DataW Unit=>strOf p.1) ∘ WideElems.rg prog 9 RT)=m.map (·.1):=by
   apply LP
   .simp[hsz]
   .intro i h1 h2
    simp only[List.getElem_map,Function.comp]
    have h3:i<es.toList.length:=by simpa using h1
    obtain⟨h4,_⟩:=hkey i h3
    unfold WideElems.rg
    rw[hko i h3 h4];try rfl
  rw[this]
theorem arB{Q:Value->AH->Prop}(hQ:∀ gb tag' I',(∀R,qd R ro tag I tag' I')->Row tag' I' 0 237 ⟨some ⟨gb,0,none⟩,1,1⟩ [.map (some M)]->Q (.func (.func 196) #[] #[.pointer (some ⟨gb,0,none⟩)]) I'):
  ab9 B ro (some M) I Q:=by
 refine qc.of_calls fun w hw hsep=>?_
 refine(callsIn_wide.1 (Tryz.maps_Keys_137 (some M) w)).mono ?_
 rintro e w' ⟨he,rfl⟩
 obtain⟨N,tag',hN,hst,hrow⟩:=abK (tag:=tag) (w':=w.alloc (.cells #[.map (some M)] 237)) 0 hw hsep (mH w.heap.size) (heap_alloc_new w _)
 exact⟨_,N,he,(Below.refl _ w).alloc (mH _) _,hN,_,rfl,hQ _ tag' _ hst (hrow _ _ _ rfl rfl (mH _) rfl)⟩
theorem aoW{gb:Nat}(r:Nat)(hg:Row tag I 0 237 ⟨some ⟨gb,0,none⟩,1,1⟩ [.map (some b)])(hm:xw tag I c b m)(hnd:(m.map (·.1)).Nodup)(hl:∀ p∈m,p.1.length<=128)(hn:m.length<=4398046511104)
  (hQ:∀ (s:Sl) (tag':Nat->Nat) (I':AH) (ks:List Str),(∀R,qd R ro tag I tag' I')->ks.Perm (m.map (·.1))->ks.Pairwise (· <= ·)->Row tag' I' r 9 s (ks.map Pa.vS)->Q s I'):jB B ro (.func (.func 196) #[] #[.pointer (some ⟨gb,0,none⟩)]) I Q:=by
 refine qc.of_calls fun w hw hsep=>?_
 obtain⟨D,hown,hsz,hperm⟩:=ass hm hw hsep hnd hl hn
 have hcell:w.cell? ⟨gb,0,none⟩=some (.map (some b)):=by
  have h1:=Row.cell1 hg hsep
  unfold qb at h1
  rw[cell?_eq]
  cases hr:SL.rd ro I gb with
  | none=>simp only at h1;rw[hr]at h1;cases h1
  | some o=>simp only at h1;rw[hw gb o hr];rw[hr]at h1;exact h1
 have hlt:gb<w.heap.size:=by
  rw[cell?_eq]at hcell
  cases hh:w.heap[gb]? with
  | none=>simp only at hcell;rw[hh]at hcell;cases hcell
  | some o=>exact qw hh
 have hseq:SeqGives Fence.wide 2 prog 196 #[.pointer (some ⟨gb,0,none⟩)] encStr (fun ss=>ss.Perm (strKeys D)) (Maps.size D) w:=
  AnyZ.keys_gives (ρ:=aiC) {amT with} Fence.wide _ trivial rfl z6 gb b m.length D w hlt hcell hown
 have hsort:=AnyZ.sorted_in akO Fence.wide 5 trivial trivial trivial trivial rfl z6 (Tryz.sorts136 _) (enters_of func195 y0 rfl) 196 #[.pointer (some ⟨gb,0,none⟩)] trivial (enters_of func196 y0 rfl) _ _ (by rw[hsz];simp only[maxLen];omega) (by rw[hsz];omega) _ hseq
 refine(callsIn_wide.1 hsort).mono ?_
 rintro e w' ⟨v,ss,he,hS,hrow,hnil,hb⟩
 have hpair:(ss.mergeSort (fun x y=>decide (x<=y))).Pairwise (· <= ·):=by
  have:=List.pairwise_mergeSort (le:=fun x y:List UInt8=>decide (x<=y)) (fun a b c h1 h2=>by simp at *;exact List.le_trans h1 h2) (fun a b=>by simp;exact List.le_total a b) ss
  simpa using this
 have hpm:(ss.mergeSort (fun x y=>decide (x<=y))).Perm (m.map (·.1)):=(List.mergeSort_perm _ _).trans (hS.trans hperm)
 have henc:∀ l:List (List UInt8),l.map encStr=l.map Pa.vS:=fun l=>rfl
 rcases hrow with⟨hlen,⟨rfl,h0⟩ | ⟨g,cap,cur,rfl,hbase,hgb,r1,r2,r3,r4⟩⟩
 .have h0':ss=[]:=mG h0
  subst h0'
  refine⟨_,fun _=>none,he,hb,agF.none _ _,⟨none,0,0⟩,rfl,?_⟩
  rw[kn]
  exact hQ _ tag I _ (fun _=>qd.refl hsep) hpm hpair (by simpa using Row.nil r 9)
 .obtain⟨N,tag',hN,hst,hrow⟩:=abK (tag:=tag) r hw hsep hbase hgb
  refine⟨_,N,he,hb,hN,⟨some ⟨g,0,none⟩,ss.length,cap⟩,rfl,?_⟩
  refine hQ _ tag' _ _ hst hpm hpair (hrow _ _ _ z7 (by rw[r3,mX]) r1 ?_)
  rw[mX]at r4
  rw[r4];try rfl
theorem aqo{r T q:Nat}{bs:List Nat}{st:St}(h:zo tag I r T M bs st)(hl:∀ p∈st,p.1.length<=128)(hn:st.length<=4398046511104)
  (hQ:∀ (s:Sl) (tag':Nat->Nat) (I':AH) (ks:List Str),(∀R,qd R ro tag I tag' I')->ks.Perm (st.map (·.1))->ks.Pairwise (· <= ·)->Row tag' I' q 9 s (ks.map Pa.vS)->Q s I'):abp B ro (some ⟨T,0,none⟩) I Q:=by
 refine ahn fun hs=>?_
 unfold abu
 refine⟨_,rfl,_,Row.cell1 h.cell hs,?_⟩
 refine arB (tag:=tag) fun gb tag1 I1 st1 r1=>?_
 have hk:=ana st bs h.len
 refine aoW q r1 (h.map.keep (st1 [])) (by rw[hk];exact h.keys) (fun p hp=>?_) (by rw[akV _ _ h.len];exact hn) fun s tag' I' ks st2 hp hs' hr=>?_
 .have:p.1∈(kv st bs).map (·.1):=my.2 ⟨p,hp,rfl⟩
  rw[hk]at this
  obtain⟨x,hx,e⟩:=my.1 this
  rw[<-e];exact hl x hx
 .rw[hk]at hp
  exact hQ s tag' I' ks (fun R=>(st1 R).trans (st2 R)) hp hs' hr
end Zt
namespace Zt
open Go SL G Pa
variable{B:World}[Zd B]{ro I I':AH}{tag tag':Nat->Nat}
theorem ast{r T M:Nat}{bs:List Nat}{st:St}{p:ByteArray}{Q:Sl->Int->Int->Int->Int->Int->AH->Prop}(g:xC ro)(hr:r<64)(hr6:r≠6)(hr0:r≠0)(h:zo tag I r T M bs st)(hdl:∀ p n,st.lookup p=some n->n.data.length<=256)
  (hbad:parts (L p)=none->∀ tag' I',vf 0 ro tag I tag' I'->Q ⟨none,0,0⟩ 0 0 0 0 20 I') (hmiss:∀ ps,parts (L p)=some ps->st.lookup (L p)=none->∀ tag' I',vf 0 ro tag I tag' I'->Q ⟨none,0,0⟩ 0 0 0 0 70 I')
  (hhit:∀ n,st.lookup (L p)=some n->∀ s tag' I',vf 0 ro tag I tag' I'->Row tag' I' 6 5 s (n.data.map vU)->Q s n.ver n.ctr n.own n.kids 0 I'):jk B ro (some ⟨T,0,none⟩) p I Q:=by
 refine aeG fun hs=>?_
 unfold aae
 refine qr (tag:=tag) 0 hs fun x tag1 I1 st1 r1=>?_
 have hA:=h.keep (st1 [])
 have hs1:=(st1 []).sep
 have err:∀ e:Int,(∀tag' I',vf 0 ro tag I tag' I'->Q ⟨none,0,0⟩ 0 0 0 0 e I')->stN ⟨x,0,none⟩ (fun I=> ∃(x5_4a:Int) (x5_4b:Int) (x5_4c:Int) (x5_4d:Int),qB ro I ⟨x,0,none⟩ 0 [.int .i64 x5_4a,.int .i64 x5_4b,.int .i64 x5_4c,.int .i64 x5_4d]/\Q (⟨none,0,0⟩:Sl) x5_4a x5_4b x5_4c x5_4d e I) [.int .i64 0,.int .i64 0,.int .i64 0,.int .i64 0] 0 I1:=by
  intro e he
  refine r1.stAll hs1 rfl (by simp[qk]) fun I2 st2 r2=>?_
  obtain⟨q,hq,hg⟩:=r2.ptr st2.sep z7
  cases hq
  exact⟨0,0,0,0,wN 0 fun j v hj=>by have:=hg j v hj;rwa [mX,<-mp j]at this,he tag1 I2 (((st1 []).c z7).trans (st2.c z7))⟩
 refine am3 g hA hs1 (fun hb=>?_) (fun ps hps hl=>?_) (fun ps i b n hps hb hp hl=>?_)
 .rw[me z8]
  exact err 20 (hbad hb)
 .rw[me z8]
  exact err 70 (hmiss ps hps hl)
 .rw[mc z8]
  obtain⟨ds,hn,hd⟩:=hA.nodes i b _ hb hp
  obtain⟨ht0,hto⟩:=hn.tagOf
  refine aeL b ?_
  have hs2:SL.Sep (join ro (SL.one I1 b)) (SL.del I1 b):=hs1.lent
  refine⟨_,rfl,_,rfl,n.ver,n.ctr,n.own,n.kids,wN 0 fun j v hj=>?_,ds,hn.lend hs1 (i:=4) rfl,?_⟩
  .rw[mp,<-mX j]
   have hj4:j<4:=by
    rcases mB j 4 with h' | h'
    .exact h'
    .rw[mw (j1 h')]at hj;cases hj
   refine hn.lend hs1 (i:=j) ?_
   rw[<-hj]
   rcases j with _ | _ | _ | _ | j
   .rfl
   .rfl
   .rfl
   .rfl
   .omega
  .have hd1:=hd.del (b:=b) ht0 z6
   have hx1:=r1.del (b:=b) ht0 z6
   refine clone_ok (tag:=tag1) (hd1.read hs2) hs2 ?_ (by simp[qk]) fun s' tag2 I2 st2 r2=>?_
   .have:=hdl _ _ hl;simp;omega
   .have hx2:=hx1.keep (st2 [])
    refine hx2.stAll (st2 []).sep rfl (by simp[qk]) fun I3 st3 r3=>?_
    intro hdj
    have stB:=((st2 [0]).trans st3).back hs1 hdj hto
    have r4:=r3.back (r':=tag1 b) hdj hto
    have r5:=(r2.keep st3).back (r':=tag1 b) hdj hto
    obtain⟨q,hq,hg⟩:=r4.ptr stB.sep z7
    cases hq
    refine⟨n.ver,n.ctr,n.own,n.kids,wN 0 fun j v hj=>by have:=hg j v hj;rwa [mX,<-mp j]at this,?_⟩
    exact hhit n hl s' _ _ (((st1 []).c z7).trans (stB.c z7)) r5
end Zt
namespace G
open Go SL
variable{B:World}{ro I:AH}
def afp(B:World)(ro:AH)(a0:Sl)(I:AH)(Q:Sl->AH->Prop):=
 nw ro I (.cells #[Sl.v a0] 24) fun u0 I=>
 ahH B ro (⟨some ⟨u0,0,none⟩,1,1⟩:Sl) I fun u1 I=>
 Q u1 I
theorem alq{a0 Q}(h:Sep ro I->afp B ro a0 I Q):acZ B ro a0 I Q:=by
 refine zb h func16 ntmps16 fun h=>?_;unfold afp at h;refine zw ?_;refine zA (wS (vs:=[(0,Sl.v a0)]) (cs:= #[Sl.v a0]) rfl Lr wq z8 rfl rfl) h fun u0 h=>?_;refine zc func50 h ?_;rintro v I ⟨u1,rfl,h⟩;exact zr h
def afq(B:World)(ro:AH)(a0 a1:Sl)(I:AH)(Q:Bool->AH->Prop):=
 awp prog ro (convert 24 9 (Sl.v a0)) (fun v I=>
 (∃(u0:ByteArray),v= .string u0/\
  awp prog ro (convert 24 9 (Sl.v a1)) (fun v I=>
  (∃(u1:ByteArray),v= .string u1/\
   Q (decide (u0=u1)) I)) I)) I
theorem alr{a0 a1 Q}(h:Sep ro I->afq B ro a0 a1 I Q):ae7 B ro a0 a1 I Q:=by
 refine zb h func18 ntmps18 fun h=>?_;unfold afq at h;refine zw ?_;refine zl (aeK rfl rfl (qj _ h ?_))
 rintro v I ⟨u0,rfl,h⟩;refine zw ?_;refine zl (aeK rfl rfl (qj _ h ?_))
 rintro v I ⟨u1,rfl,h⟩;exact zr h
def acq(B:World)(ro:AH)(Q:Sl->AH->Prop)(u0:Sl)(I:AH):=
 Q u0 I
def aeu(B:World)(ro:AH)(a0:Sl)(Q:Sl->AH->Prop):(Sl×Int)->AH->((Sl×Int)->AH->Prop)->Prop:=fun⟨u0,u1⟩ I Y4=>
 if u1<(a0.len:Int)then
 ∃p2,a0.a=some p2/\(0:Int)<=u1/\u1<(a0.len:Int)/\
 ∃u3,qb ro I (p2.add (Int.toNat u1*1))=some (Sl.v u3)/\
 awp prog ro (Builtin.append_ #[24,24] 24 #[Sl.v u0,Sl.v u3]) (fun v I=> ∃(u4:Sl),v=Sl.v u4/\
  Y4 (u4,i64.wrap (u1+1)) I) I
 else
 acq B ro Q u0 I
def afr(B:World)(ro:AH)(a0:Sl)(I:AH)(Q:Sl->AH->Prop):=
 nw ro I (.cells #[] 5) fun u0 I=>
 lfpD (aeu B ro a0 Q) ((⟨some ⟨u0,0,none⟩,0,0⟩:Sl),0) I
theorem als{a0 Q}(h:Sep ro I->afr B ro a0 I Q):ahH B ro a0 I Q:=by
 refine zb h func50 ntmps50 fun h=>?_;unfold afr at h;refine zw ?_;refine zAp (wS (vs:=[]) (cs:= #[]) rfl mo ty5 z8 rfl rfl) h fun u0 h=>?_;refine AW.seqJ (fun fr I=> ∃(u1:Sl),qg [(3,Sl.v u1)] fr/\acq B ro Q u1 I) ?_ ?_
 .rintro fr I ⟨u1,hl,h⟩;refine AW.weaken ?_ hl (HLe.refl _)
  unfold acq at h;exact zr h
 refine zw ?_;refine qf.loop (fr':=[(0,Sl.v a0),(3,Sl.v (⟨some ⟨u0,0,none⟩,0,0⟩:Sl)),(4,.int .i64 0)]) ?_ FL
 refine h (fun⟨u2,u3⟩ I=>qf _ _ _ _ _ _ [(0,Sl.v a0),(3,Sl.v u2),(4,.int .i64 u3)] I) ?_
 rintro⟨u2,u3⟩ I Y4 hY4 h
 show AW _ _ _ _ _ _ _ _
 unfold aeu at h;dsimp only at h;refine AW.seq ?_;refine zw ?_;refine zm (qD rfl rfl Lr rfl rfl) ?_;refine zi h (fun h=>?_) fun h=>?_
 rotate_left
 .refine AW.exit ?_;refine zw ?_;refine qN ?_
  refine zw ?_;exact⟨_,FL,h⟩
 refine zw ?_;refine AW.seq ?_;refine zw ?_;obtain⟨p4,ha,h0,h1,h⟩:=h
 refine zm (wR rfl Lr wq (ixL rfl ha) rfl h0 h1) ?_;refine zL mo h fun u5 h=>?_;refine zl (yt (s:=Builtin.append_ #[24,24] 24 #[Sl.v u2,Sl.v u5]) rfl rfl (fun _=>rfl) (qj _ h ?_))
 rintro v I ⟨u6,rfl,h⟩;refine zw ?_;refine qf.head (fr':=[(0,Sl.v a0),(3,Sl.v u6),(4,.int .i64 (i64.wrap (u3+1)))]) ?_ FL
 exact hY4 _ _ h
def abv(B:World)(ro:AH)(a0:Option Addr)(I:AH)(Q:Int->AH->Prop):=
 ∃p0,a0=some p0/\
 ∃u1,qb ro I (p0.add 2)=some (.int .i64 u1)/\
 if¬(u1=0)then
 Q 0 I
 else
 ∃p2,a0=some p2/\
 ∃p3,a0=some p3/\
 ∃u4,qb ro I p2=some (Sl.v u4)/\
 ∃u5,qb ro I (p3.add 1)=some (.int .i64 u5)/\
 adu B ro u4 u5 I fun u6 u7 u8 I=>
 if¬(u8=0)then
 ∃p9,a0=some p9/\
 stN (p9.add 2) (fun I=>
  Q 0 I) [.int .i64 u8] 0 I
 else
 ∃p10,a0=some p10/\
 stN (p10.add 1) (fun I=>
 Q u6 I) [.int .i64 u7] 0 I
theorem aho{a0 Q}(h:Sep ro I->abv B ro a0 I Q):qm B ro a0 I Q:=by
 refine zb h func59 ntmps59 fun h=>?_;unfold abv at h;refine zw ?_;refine AW.seq ?_;refine zN h fun p0 h=>?_;refine zf mS ty3 ?_;refine zLp mj h fun u1 h=>?_;refine AW.iff rfl (qp mg) h (fun h=>?_) (fun h=>?_)
 .exact zr h
 refine zw ?_;refine AW.seq ?_;refine AW.drawn0 (fun i=>([0,0,0,3,0,0,0,3,2,0,0,0,0,0,0,0]:List Nat).getD i 2) [] [0,1,2,4,5,6,3,7,8,9,10,11,12,13,14,15] mixed j0 ?_
 refine zM h fun p2 h=>?_;refine zg mS wq ?_;refine zM h fun p3 h=>?_;refine zg mS ty3 ?_;refine zR mo h fun u4 h=>?_;refine zR mj h fun u5 h=>?_;refine zG func120 h ?_;rintro v I ⟨u6,u7,u8,rfl,h⟩;refine zw ?_;refine vn ?_
 refine zw ?_;refine AW.seq ?_;refine zw ?_;refine AW.iff rfl (qp mg) h (fun h=>?_) (fun h=>?_)
 .refine zN h fun p9 h=>?_;refine zf mS ty3 ?_;refine zs ty3 h fun I h=>?_;exact zr h
 refine zN h fun p10 h=>?_;refine zf mS ty3 ?_;refine zs ty3 h fun I h=>?_;exact zr h
def aaS(B:World)(ro:AH)(a0:Option Addr)(I:AH)(Q:Sl->AH->Prop):=
 ∃p0,a0=some p0/\
 ∃u1,qb ro I (p0.add 1)=some (.int .i64 u1)/\
 qm B ro a0 I fun u2 I=>
 ∃p3,a0=some p3/\
 ∃u4,qb ro I (p3.add 2)=some (.int .i64 u4)/\
 if¬(u4=0)then
 Q (⟨none,0,0⟩:Sl) I
 else
 vp B ro a0 I fun u5 I=>
 if u5<u2 then
 ∃p6,a0=some p6/\
 stN (p6.add 2) (fun I=>
  ∃p7,a0=some p7/\
  stN (p7.add 1) (fun I=>
  Q (⟨none,0,0⟩:Sl) I) [.int .i64 u1] 0 I) [.int .i64 12] 0 I
 else
 ∃p8,a0=some p8/\
 ∃p9,a0=some p9/\
 ∃p10,a0=some p10/\
 ∃u11,qb ro I p8=some (Sl.v u11)/\
 ∃u12,qb ro I (p9.add 1)=some (.int .i64 u12)/\
 ∃u13,qb ro I (p10.add 1)=some (.int .i64 u13)/\
 cutOk (some u12) (some (i64.wrap (u13+u2))) u11.len u11.cap/\
 acZ B ro (⟨wH u11.a (Int.toNat u12) u11.cap 1,Int.toNat (i64.wrap (u13+u2)) - Int.toNat u12,u11.cap - Int.toNat u12⟩:Sl) I fun u14 I=>
 ∃p15,a0=some p15/\
 ∃u16,qb ro I (p15.add 1)=some (.int .i64 u16)/\
 ∃p17,a0=some p17/\
 stN (p17.add 1) (fun I=>
 Q u14 I) [.int .i64 (i64.wrap (u16+u2))] 0 I
theorem agU{a0 Q}(h:Sep ro I->aaS B ro a0 I Q):qL B ro a0 I Q:=by
 refine zb h func60 ntmps60 fun h=>?_;unfold aaS at h;refine zN h fun p0 h=>?_;refine zf mS ty3 ?_;refine zL mj h fun u1 h=>?_;refine zC func59 h fun u2 I h=>?_;refine AW.seq ?_;refine zN h fun p3 h=>?_;refine zf mS ty3 ?_;refine zLp mj h fun u4 h=>?_;refine AW.iff rfl (qp mg) h (fun h=>?_) (fun h=>?_)
 .exact zr h
 refine zw ?_;refine AW.seq ?_;refine zc func61 h ?_;rintro v I ⟨u5,rfl,h⟩;refine zi h (fun h=>?_) fun h=>?_
 .refine zN h fun p6 h=>?_;refine zf mS ty3 ?_;refine zs ty3 h fun I h=>?_;refine zN h fun p7 h=>?_;refine zf mS ty3 ?_;refine zs ty3 h fun I h=>?_;exact zr h
 refine zw ?_;refine AW.seq ?_;refine AW.drawn0 (fun i=>([0,0,0,3,0,0,0,3,0,0,0,3,0,0,0,2,0]:List Nat).getD i 2) [(3,14),(3,15),(7,14),(7,15),(11,13),(11,14),(11,15)] [0,1,2,4,5,6,8,9,10,12,3,7,11,13,14,15,16] mixed j0 ?_
 refine zM h fun p8 h=>?_;refine zg mS wq ?_;refine zM h fun p9 h=>?_;refine zg mS ty3 ?_;refine zM h fun p10 h=>?_;refine zg mS ty3 ?_;refine zR mo h fun u11 h=>?_;refine zR mj h fun u12 h=>?_;refine zR mj h fun u13 h=>?_;refine zw ?_;obtain⟨hc,h⟩:=h
 refine Dp rfl rfl rfl rfl (abI (lo:=(some u12)) (hi:=(some (i64.wrap (u13+u2)))) rfl mo ty5 rfl (wK rfl) (wK rfl) hc) ?_
 refine zG func16 h ?_;rintro v I ⟨u14,rfl,h⟩;refine zw ?_;refine vn ?_
 refine zN h fun p15 h=>?_;refine zf mS ty3 ?_;refine zL mj h fun u16 h=>?_;refine zN h fun p17 h=>?_;refine zf mS ty3 ?_;refine zs ty3 h fun I h=>?_;exact zr h
def aaT(B:World)(ro:AH)(a0:Option Addr)(I:AH)(Q:Int->AH->Prop):=
 ∃p0,a0=some p0/\
 ∃p1,a0=some p1/\
 ∃u2,qb ro I p0=some (Sl.v u2)/\
 ∃u3,qb ro I (p1.add 1)=some (.int .i64 u3)/\
 Q (i64.wrap ((u2.len:Int) - u3)) I
theorem agV{a0 Q}(h:Sep ro I->aaT B ro a0 I Q):vp B ro a0 I Q:=by
 refine zb h func61 ntmps61 fun h=>?_;unfold aaT at h;refine zw ?_;refine AW.seq ?_;refine AW.drawn0 (fun i=>([0,0,0,3,0,0,0,0,3,0,0]:List Nat).getD i 2) [] [0,1,2,5,6,7,3,4,8,9,10] mixed j0 ?_
 refine zM h fun p0 h=>?_;refine zg mS wq ?_;refine zM h fun p1 h=>?_;refine zg mS ty3 ?_;refine zR mo h fun u2 h=>?_;refine Dp rfl rfl rfl rfl (qD rfl rfl mo rfl rfl) ?_
 refine zR mj h fun u3 h=>?_;refine zw ?_;refine vn ?_
 exact zr h
def aga(B:World)(ro:AH)(a0:Int)(I:AH)(Q:Bool->AH->Prop):=
 Q ((decide (a0<0)) || (decide (4611686018427387903<a0))) I
theorem al1{a0 Q}(h:Sep ro I->aga B ro a0 I Q):aiB B ro a0 I Q:=by
 refine zb h func118 ntmps118 fun h=>?_;unfold aga at h;refine zw ?_;refine qx 3 (decide (a0<0)) [(8,.bool ((decide (a0<0)) || (decide (4611686018427387903<a0))))] ?_ ?_ ?_
 .intro e2 hk2
  refine zv e2 ?_;exact hk2 _ (Fe e2)
 .intro e2 hk2
  refine zv e2 ?_;exact hk2 _ (Fe e2)
 intro fr hl
 refine Lfr hl ?_
 exact zr h
def aa9(B:World)(ro:AH)(a1 u0:Int)(Q:Int->Int->Int->AH->Prop)(u1:Int)(I:AH):=
 Q u1 (i64.wrap ((i64.wrap (a1+u0))+1)) 0 I
def jQ(B:World)(ro:AH)(a0:Sl)(a1 u0:Int)(Q:Int->Int->Int->AH->Prop):(Int×Int)->AH->((Int×Int)->AH->Prop)->Prop:=fun⟨u1,u2⟩ I Y9=>
 if 0<=u2 then
 ∃p3,a0.a=some p3/\(0:Int)<=(i64.wrap (a1+u2))/\(i64.wrap (a1+u2))<(a0.len:Int)/\
 ∃u4,qb ro I (p3.add (Int.toNat (i64.wrap (a1+u2))*1))=some (.int .u8 u4)/\
 Y9 (i64.wrap ((i64.wrap (u1*128))+(Int.tmod (i64.wrap u4) 128)),i64.wrap (u2 - 1)) I
 else
 aa9 B ro a1 u0 Q u1 I
def vt(B:World)(ro:AH)(a0:Sl)(a1 u0:Int)(Q:Int->Int->Int->AH->Prop)(u1:Bool)(I:AH):=
 if u1=true then
 Q 0 0 13 I
 else
 lfpD (jQ B ro a0 a1 u0 Q) (0,u0) I
def jn(B:World)(ro:AH)(a0:Sl)(a1 u0:Int)(u1:Bool)(Q:Int->Int->Int->AH->Prop)(u2:Bool)(I:AH):=
 vt B ro a0 a1 u0 Q u2 I
def kp(B:World)(ro:AH)(a0:Sl)(a1 u0:Int)(Q:Int->Int->Int->AH->Prop)(u1:Bool)(I:AH):=
 if u1=true then
 vt B ro a0 a1 u0 Q true I
 else
 if u0=8 then
 ∃p2,a0.a=some p2/\(0:Int)<=(i64.wrap (a1+8))/\(i64.wrap (a1+8))<(a0.len:Int)/\
 ∃u3,qb ro I (p2.add (Int.toNat (i64.wrap (a1+8))*1))=some (.int .u8 u3)/\
 jn B ro a0 a1 u0 u1 Q (decide (63<u3)) I
 else
 jn B ro a0 a1 u0 u1 Q false I
def jo(B:World)(ro:AH)(a0:Sl)(a1 u0:Int)(Q:Int->Int->Int->AH->Prop)(u1:Bool)(I:AH):=
 kp B ro a0 a1 u0 Q u1 I
def pP(B:World)(ro:AH)(a0:Sl)(a1:Int)(Q:Int->Int->Int->AH->Prop)(u0:Int)(I:AH):=
 if(u0<0)/\((i64.wrap ((a0.len:Int) - a1))<9)then
 Q 0 0 12 I
 else
 if u0<0 then
 kp B ro a0 a1 u0 Q true I
 else
 if 0<u0 then
 ∃p1,a0.a=some p1/\(0:Int)<=(i64.wrap (a1+u0))/\(i64.wrap (a1+u0))<(a0.len:Int)/\
 ∃u2,qb ro I (p1.add (Int.toNat (i64.wrap (a1+u0))*1))=some (.int .u8 u2)/\
 jo B ro a0 a1 u0 Q (decide (u2=0)) I
 else
 jo B ro a0 a1 u0 Q false I
def jp(B:World)(ro:AH)(a0:Sl)(a1 u0:Int)(Q:Int->Int->Int->AH->Prop)(Y22:(Int×Int)->AH->Prop)(u1:Int)(I:AH):=
 Y22 (u1,i64.wrap (u0+1)) I
def yX(B:World)(ro:AH)(a0:Sl)(a1:Int)(Q:Int->Int->Int->AH->Prop):(Int×Int)->AH->((Int×Int)->AH->Prop)->Prop:=fun⟨u0,u1⟩ I Y22=>
 if((u1<9)/\((i64.wrap (a1+u1))<(a0.len:Int)))/\(u0<0)then
 ∃p2,a0.a=some p2/\(0:Int)<=(i64.wrap (a1+u1))/\(i64.wrap (a1+u1))<(a0.len:Int)/\
 ∃u3,qb ro I (p2.add (Int.toNat (i64.wrap (a1+u1))*1))=some (.int .u8 u3)/\
 if u3<128 then
  jp B ro a0 a1 u1 Q Y22 u1 I
 else
 jp B ro a0 a1 u1 Q Y22 u0 I
 else
 pP B ro a0 a1 Q u0 I
def adz(B:World)(ro:AH)(a0:Sl)(a1:Int)(I:AH)(Q:Int->Int->Int->AH->Prop):=
 if(a1<0)\/((a0.len:Int)<a1)then
 Q 0 0 11 I
 else
 lfpD (yX B ro a0 a1 Q) ((-1),0) I
theorem ajE{a0 a1 Q}(h:Sep ro I->adz B ro a0 a1 I Q):adu B ro a0 a1 I Q:=by
 refine zb h func120 ntmps120 fun h=>?_;unfold adz at h;refine zw ?_;refine AW.seq ?_;refine zw ?_;refine qx 5 (decide (a1<0)) [(0,Sl.v a0),(1,.int .i64 a1),(18,.bool ((decide (a1<0)) || (decide ((a0.len:Int)<a1))))] ?_ ?_ ?_
 .intro e2 hk2
  refine zv e2 ?_;exact hk2 _ (Fe e2)
 .intro e2 hk2
  refine zv e2 ?_;refine qo (qD rfl rfl mo rfl rfl) rfl rfl rfl rfl e2 ?_
  refine zv e2 ?_;exact hk2 _ (Fe e2)
 intro fr hl
 refine Lfr hl ?_
 refine zw ?_;refine AW.iff rfl (qJ mg mg) h (fun h=>?_) (fun h=>?_)
 .refine zw ?_;exact bR3 results120 rfl rfl rfl ⟨_,_,_,rfl,h⟩
 refine zw ?_;refine AW.seqJ (fun fr I=> ∃(u0:Int),qg [(0,Sl.v a0),(1,.int .i64 a1),(7,.int .i64 u0)] fr/\pP B ro a0 a1 Q u0 I) ?_ ?_
 rotate_left
 .refine zw ?_;refine qf.loop (fr':=[(0,Sl.v a0),(1,.int .i64 a1),(7,.int .i64 (-1)),(8,.int .i64 0)]) ?_ FL
  refine h (fun⟨u1,u2⟩ I=>qf _ _ _ _ _ _ [(0,Sl.v a0),(1,.int .i64 a1),(7,.int .i64 u1),(8,.int .i64 u2)] I) ?_
  rintro⟨u1,u2⟩ I Y22 hY22 h
  show AW _ _ _ _ _ _ _ _
  unfold yX at h;dsimp only at h;refine AW.seq ?_;refine zw ?_;refine qx 7 (decide (u2<9)) [(0,Sl.v a0),(1,.int .i64 a1),(7,.int .i64 u1),(8,.int .i64 u2),(28,.bool ((decide (u2<9)) && (decide ((i64.wrap (a1+u2))<(a0.len:Int)))))] ?_ ?_ ?_
  .intro e2 hk2
   refine zv e2 ?_;refine qo (qD rfl rfl mo rfl rfl) rfl rfl rfl rfl e2 ?_
   refine zv e2 ?_;exact hk2 _ (Fe e2)
  .intro e2 hk2
   refine zv e2 ?_;exact hk2 _ (Fe e2)
  intro fr hl
  refine Lfr hl ?_
  refine zw ?_;refine qx 3 ((decide (u2<9)) && (decide ((i64.wrap (a1+u2))<(a0.len:Int)))) [(0,Sl.v a0),(1,.int .i64 a1),(7,.int .i64 u1),(8,.int .i64 u2),(32,.bool (((decide (u2<9)) && (decide ((i64.wrap (a1+u2))<(a0.len:Int)))) && (decide (u1<0))))] ?_ ?_ ?_
  .intro e10 hk10
   refine zv e10 ?_;exact hk10 _ (Fe e10)
  .intro e10 hk10
   refine zv e10 ?_;exact hk10 _ (Fe e10)
  intro fr hl
  refine Lfr hl ?_
  refine zw ?_;refine AW.iff rfl (xv (xv mg mg) mg) h (fun h=>?_) (fun h=>?_)
  rotate_left
  .refine AW.exit ?_;refine zw ?_;refine qN ?_
   refine zw ?_;exact⟨_,FL,h⟩
  refine zw ?_;refine AW.seqJ (fun fr I=> ∃(u3:Int),qg [(0,Sl.v a0),(1,.int .i64 a1),(8,.int .i64 u2),(7,.int .i64 u3)] fr/\jp B ro a0 a1 u2 Q Y22 u3 I) ?_ ?_
  .rintro fr I ⟨u3,hl,h⟩;refine AW.weaken ?_ hl (HLe.refl _)
   unfold jp at h;refine zw ?_;refine qf.head (fr':=[(0,Sl.v a0),(1,.int .i64 a1),(7,.int .i64 u3),(8,.int .i64 (i64.wrap (u2+1)))]) ?_ FL
   exact hY22 _ _ h
  refine zw ?_;obtain⟨p4,ha,h0,h1,h⟩:=h
  refine zm (wR rfl mo ty5 (ixL rfl ha) rfl h0 h1) ?_;refine zL nF h fun u5 h=>?_;refine zi h (fun h=>?_) fun h=>?_
  rotate_left
  .refine zw ?_;exact⟨_,FL,h⟩
  refine zw ?_;exact⟨_,FL,h⟩
 rintro fr I ⟨u0,hl,h⟩;refine AW.weaken ?_ hl (HLe.refl _)
 unfold pP at h;refine AW.seq ?_;refine zw ?_;refine qx 6 (decide (u0<0)) [(0,Sl.v a0),(1,.int .i64 a1),(7,.int .i64 u0),(51,.bool ((decide (u0<0)) && (decide ((i64.wrap ((a0.len:Int) - a1))<9))))] ?_ ?_ ?_
 .intro e2 hk2
  refine zy e2 ?_;refine qo (qD rfl rfl mo rfl rfl) rfl rfl rfl rfl e2 ?_
  refine zv e2 ?_;exact hk2 _ (Fe e2)
 .intro e2 hk2
  refine zv e2 ?_;exact hk2 _ (Fe e2)
 intro fr hl
 refine Lfr hl ?_
 refine zw ?_;refine AW.iff rfl (xv mg mg) h (fun h=>?_) (fun h=>?_)
 .refine zw ?_;exact bR3 results120 rfl rfl rfl ⟨_,_,_,rfl,h⟩
 refine zw ?_;refine AW.seq ?_;refine zw ?_;refine qn 12 (decide (u0<0)) mg h (fun fr I=> ∃(u6:Bool),qg [(0,Sl.v a0),(1,.int .i64 a1),(7,.int .i64 u0),(66,.bool u6)] fr/\kp B ro a0 a1 u0 Q u6 I) ?_ ?_ ?_
 .intro h e2 hk2;refine zv e2 ?_;refine Ln rfl rfl rfl rfl (.inr rfl) ?_
  refine Ln rfl rfl rfl rfl (.inr rfl) ?_
  refine Ln rfl rfl rfl rfl (.inr rfl) ?_
  refine Ln rfl rfl rfl rfl (.inr rfl) ?_
  refine Ln rfl rfl rfl rfl (.inr rfl) ?_
  refine Ln rfl rfl rfl rfl (.inr rfl) ?_
  refine Ln rfl rfl rfl rfl (.inr rfl) ?_
  refine zv e2 ?_;exact hk2 _ _ ⟨_,FL,h⟩
 .intro h e2 hk2;refine zv e2 ?_;refine qn 8 (decide (0<u0)) mg h (fun fr I=> ∃(u7:Bool),qg [(0,Sl.v a0),(1,.int .i64 a1),(7,.int .i64 u0),(54,.bool (decide (u0<0))),(65,.bool u7)] fr/\jo B ro a0 a1 u0 Q u7 I) ?_ ?_ ?_
  .intro h e5 hk5;refine zv e5 ?_;obtain⟨p8,ha,h0,h1,h⟩:=h
   refine qo (wR rfl mo ty5 (ixL rfl ha) rfl h0 h1) rfl rfl rfl rfl e5 ?_
   obtain⟨u9,hc,h⟩:=h
   refine Lyb rfl rfl rfl rfl e5 (wU rfl nF rfl rfl hc ?_)
   refine zy e5 ?_;refine qo (qT rfl (evb e5) rfl) rfl rfl rfl rfl e2 ?_
   exact hk5 _ _ ⟨_,FL,h⟩
  .intro h e5 hk5;refine zv e5 ?_;refine qo (wL rfl (evb e5) rfl) rfl rfl rfl rfl e2 ?_
   exact hk5 _ _ ⟨_,FL,h⟩
  rintro fr I ⟨u7,hl,h⟩;unfold jo at h;refine Lfr hl ?_
  refine zk e2 ?_;exact hk2 _ _ ⟨_,FL,h⟩
 rintro fr I ⟨u6,hl,h⟩;unfold kp at h;refine Lfr hl ?_
 refine zw ?_;refine qn 11 u6 Iff.rfl h (fun fr I=> ∃(u10:Bool),qg [(0,Sl.v a0),(1,.int .i64 a1),(7,.int .i64 u0),(78,.bool u10)] fr/\vt B ro a0 a1 u0 Q u10 I) ?_ ?_ ?_
 .intro h e15 hk15;refine zv e15 ?_;refine Ln rfl rfl rfl rfl (.inr rfl) ?_
  refine Ln rfl rfl rfl rfl (.inr rfl) ?_
  refine Ln rfl rfl rfl rfl (.inr rfl) ?_
  refine Ln rfl rfl rfl rfl (.inr rfl) ?_
  refine Ln rfl rfl rfl rfl (.inr rfl) ?_
  refine Ln rfl rfl rfl rfl (.inr rfl) ?_
  refine zv e15 ?_;exact hk15 _ _ ⟨_,FL,h⟩
 .intro h e15 hk15;refine zv e15 ?_;refine qn 7 (decide (u0=8)) mg h (fun fr I=> ∃(u11:Bool),qg [(0,Sl.v a0),(1,.int .i64 a1),(7,.int .i64 u0),(67,.bool u6),(77,.bool u11)] fr/\jn B ro a0 a1 u0 u6 Q u11 I) ?_ ?_ ?_
  .intro h e18 hk18;refine zv e18 ?_;obtain⟨p12,ha,h0,h1,h⟩:=h
   refine qo (wR rfl mo ty5 (ixL rfl ha) rfl h0 h1) rfl rfl rfl rfl e18 ?_
   obtain⟨u13,hc,h⟩:=h
   refine Lyb rfl rfl rfl rfl e18 (wU rfl nF rfl rfl hc ?_)
   refine zy e18 ?_;refine qo (qT rfl (evb e18) rfl) rfl rfl rfl rfl e15 ?_
   exact hk18 _ _ ⟨_,FL,h⟩
  .intro h e18 hk18;refine zv e18 ?_;refine qo (wL rfl (evb e18) rfl) rfl rfl rfl rfl e15 ?_
   exact hk18 _ _ ⟨_,FL,h⟩
  rintro fr I ⟨u11,hl,h⟩;unfold jn at h;refine Lfr hl ?_
  refine zk e15 ?_;exact hk15 _ _ ⟨_,FL,h⟩
 rintro fr I ⟨u10,hl,h⟩;unfold vt at h;refine Lfr hl ?_
 refine zj h (fun h=>?_) fun h=>?_
 .refine zw ?_;exact bR3 results120 rfl rfl rfl ⟨_,_,_,rfl,h⟩
 refine zw ?_;refine AW.seqJ (fun fr I=> ∃(u14:Int),qg [(1,.int .i64 a1),(7,.int .i64 u0),(9,.int .i64 u14)] fr/\aa9 B ro a1 u0 Q u14 I) ?_ ?_
 .rintro fr I ⟨u14,hl,h⟩;refine AW.weaken ?_ hl (HLe.refl _)
  unfold aa9 at h;refine zw ?_;exact bR3 results120 rfl rfl rfl ⟨_,_,_,rfl,h⟩
 refine zw ?_;refine qf.loop (fr':=[(0,Sl.v a0),(1,.int .i64 a1),(7,.int .i64 u0),(9,.int .i64 0),(10,.int .i64 u0)]) ?_ FL
 refine h (fun⟨u15,u16⟩ I=>qf _ _ _ _ _ _ [(0,Sl.v a0),(1,.int .i64 a1),(7,.int .i64 u0),(9,.int .i64 u15),(10,.int .i64 u16)] I) ?_
 rintro⟨u15,u16⟩ I Y9 hY9 h
 show AW _ _ _ _ _ _ _ _
 unfold jQ at h;dsimp only at h;refine AW.seq ?_;refine zi h (fun h=>?_) fun h=>?_
 rotate_left
 .refine AW.exit ?_;refine zw ?_;refine qN ?_
  refine zw ?_;exact⟨_,FL,h⟩
 refine zw ?_;refine AW.seq ?_;refine zw ?_;obtain⟨p17,ha,h0,h1,h⟩:=h
 refine zm (wR rfl mo ty5 (ixL rfl ha) rfl h0 h1) ?_;refine zL nF h fun u18 h=>?_;refine zm (alC rfl rfl nF mj) ?_;refine zm (asT rfl rfl rfl z8) ?_;refine zw ?_;refine qf.head (fr':=[(0,Sl.v a0),(1,.int .i64 a1),(7,.int .i64 u0),(9,.int .i64 (i64.wrap ((i64.wrap (u15*128))+(Int.tmod (i64.wrap u18) 128)))),(10,.int .i64 (i64.wrap (u16 - 1)))]) ?_ FL
 exact hY9 _ _ h
end G
namespace Zt
open Go SL G Pa
variable{B:World}[Zd B]{ro I I':AH}{tag tag':Nat->Nat}
theorem anb{s:Sl}{l:List Value}{Q:Sl->AH->Prop}(h:SL.qU ro I s l)(hs:SL.Sep ro I)(hl:l.length<=140737488355328)(hv:∀ v∈l,qk v=true)(hQ:∀ s' tag' I',(∀R,qd R ro tag I tag' I')->Row tag' I' 6 5 s' l->Q s' I'):acZ B ro s I Q:=by
 refine alq fun _=>?_
 unfold afp
 refine qr (tag:=tag) 0 hs fun b tag1 I1 st1 r1=>?_
 refine als fun _=>?_
 unfold afr
 refine qr (tag:=tag1) 6 (st1 []).sep fun c tag2 I2 st2 r2=>?_
 have r1':=r1.keep (st2 [])
 have h2:SL.qU ro I2 s l:=(h.step (st1 [])).step (st2 [])
 refine lfpD.intro ?_
 unfold aeu
 simp only
 rw[me z8]
 obtain⟨p,hp,hg⟩:=r1'.ptr (st2 []).sep z7
 cases hp
 refine⟨_,rfl,z8,z8,s,hg 0 _ rfl,?_⟩
 refine aaI r2 (st2 []).sep h2 u30 ty5 rfl hv y6 z8 fun s' tag3 I3 st3 r3=>?_
 refine⟨s',rfl,?_⟩
 rw[show i64.wrap (0+1)=1 from by decide]
 refine lfpD.intro ?_
 show(if(1:Int)<((1:Nat):Int)then _ else _)
 rw[mc z8]
 unfold acq
 exact hQ s' tag3 I3 (fun R=>(st1 R).trans ((st2 R).trans (st3 R (.inl rfl)))) r3
end Zt
namespace Zt
open Go SL Pa Wi
theorem Inv.small{st:St}(h:Inv st):∀ p∈st,p.1.length<=128/\p.2.data.length<=256:=fun p hp=>by
 have hl:=(jC h.keys (k:=p.1) (n:=p.2)).2 hp
 obtain⟨ps,hps⟩:=h.path _ _ hl
 obtain⟨e,hg⟩:=xZ.1 hps
 exact⟨by rw[e];exact hg.len,h.data _ _ hl⟩
end Zt
namespace G
open Go SL
variable{B:World}{ro I:AH}
def wO(B:World)(ro:AH)(a0:Option Addr)(a1:ByteArray)(Q:Int->Value->AH->Prop)(u0:Int)(I:AH):=
 ∃p1,a0=some p1/\
 ∃u2,qb ro I p1=some (Sl.v u2)/\
 cutOk (some u0) none u2.len u2.cap/\
 awp prog ro (Builtin.copy_ #[24,9] 3 #[Sl.v (⟨wH u2.a (Int.toNat u0) u2.cap 1,u2.len - Int.toNat u0,u2.cap - Int.toNat u0⟩:Sl),.string a1]) (fun v I=> ∃(u3:Int),v= .int .i64 u3/\
 Q u3 .nilIface I) I
def yo(B:World)(ro:AH)(a0:Option Addr)(a1:ByteArray)(I:AH)(Q:Int->Value->AH->Prop):=
 ∃p0,a0=some p0/\
 stN (p0.add 2) (fun I=>
 wP B ro a0 (a1.size:Int) I fun u1 u2 I=>
 if¬(u2=true)then
  pi B ro a0 (a1.size:Int) I fun u3 I=>
  wO B ro a0 a1 Q u3 I
 else
 wO B ro a0 a1 Q u1 I) [.int .i8 0] 0 I
theorem ad7{a0 a1 Q}(h:Sep ro I->yo B ro a0 a1 I Q):yl B ro a0 a1 I Q:=by
 refine zb h func115 ntmps115 fun h=>?_;unfold yo at h;refine zN h fun p0 h=>?_;refine zf nf alF ?_;refine zsp alF h fun I h=>?_;refine zm (jG rfl rfl mu rfl rfl) ?_;refine zc func176 h ?_;rintro v I ⟨u1,u2,rfl,h⟩;refine zw ?_;refine AW.seqJ (fun fr I=> ∃(u3:Int),qg [(0,.pointer a0),(1,.string a1),(6,.int .i64 u3)] fr/\wO B ro a0 a1 Q u3 I) ?_ ?_
 rotate_left
 .refine zw ?_;refine AW.iff rfl (qp Iff.rfl) h (fun h=>?_) (fun h=>?_)
  rotate_left
  .refine zw ?_;exact⟨_,FL,h⟩
  refine zw ?_;refine zm (jG rfl rfl mu rfl rfl) ?_;refine zC func177 h fun u4 I h=>?_;exact⟨_,FL,h⟩
 rintro fr I ⟨u3,hl,h⟩;refine AW.weaken ?_ hl (HLe.refl _)
 unfold wO at h;refine zN h fun p5 h=>?_;refine zf nf wq ?_;refine zLp mo h fun u6 h=>?_;obtain⟨hc,h⟩:=h
 refine zm (abI (lo:=(some u3)) (hi:=none) rfl mo ty5 rfl (wK rfl) vD hc) ?_;refine zw ?_;refine zl (yt (s:=Builtin.copy_ #[24,9] 3 #[Sl.v (⟨wH u6.a (Int.toNat u3) u6.cap 1,u6.len - Int.toNat u3,u6.cap - Int.toNat u3⟩:Sl),.string a1]) rfl rfl (fun _=>rfl) (qj _ h ?_))
 rintro v I ⟨u7,rfl,h⟩;exact zrr h
def vz(B:World)(ro:AH)(a0:Option Addr)(a1:Sl)(Q:Int->Value->AH->Prop)(u0:Int)(I:AH):=
 ∃p1,a0=some p1/\
 ∃u2,qb ro I p1=some (Sl.v u2)/\
 cutOk (some u0) none u2.len u2.cap/\
 awp prog ro (Builtin.copy_ #[24,24] 3 #[Sl.v (⟨wH u2.a (Int.toNat u0) u2.cap 1,u2.len - Int.toNat u0,u2.cap - Int.toNat u0⟩:Sl),Sl.v a1]) (fun v I=> ∃(u3:Int),v= .int .i64 u3/\
 Q u3 .nilIface I) I
def aai(B:World)(ro:AH)(a0:Option Addr)(a1:Sl)(I:AH)(Q:Int->Value->AH->Prop):=
 ∃p0,a0=some p0/\
 stN (p0.add 2) (fun I=>
 wP B ro a0 (a1.len:Int) I fun u1 u2 I=>
 if¬(u2=true)then
  pi B ro a0 (a1.len:Int) I fun u3 I=>
  vz B ro a0 a1 Q u3 I
 else
 vz B ro a0 a1 Q u1 I) [.int .i8 0] 0 I
theorem agm{a0 a1 Q}(h:Sep ro I->aai B ro a0 a1 I Q):yv B ro a0 a1 I Q:=by
 refine zb h func116 ntmps116 fun h=>?_;unfold aai at h;refine zN h fun p0 h=>?_;refine zf nf alF ?_;refine zsp alF h fun I h=>?_;refine zm (qD rfl rfl mo rfl rfl) ?_;refine zc func176 h ?_;rintro v I ⟨u1,u2,rfl,h⟩;refine zw ?_;refine AW.seqJ (fun fr I=> ∃(u3:Int),qg [(0,.pointer a0),(1,Sl.v a1),(6,.int .i64 u3)] fr/\vz B ro a0 a1 Q u3 I) ?_ ?_
 rotate_left
 .refine zw ?_;refine AW.iff rfl (qp Iff.rfl) h (fun h=>?_) (fun h=>?_)
  rotate_left
  .refine zw ?_;exact⟨_,FL,h⟩
  refine zw ?_;refine zm (qD rfl rfl mo rfl rfl) ?_;refine zC func177 h fun u4 I h=>?_;exact⟨_,FL,h⟩
 rintro fr I ⟨u3,hl,h⟩;refine AW.weaken ?_ hl (HLe.refl _)
 unfold vz at h;refine zN h fun p5 h=>?_;refine zf nf wq ?_;refine zLp mo h fun u6 h=>?_;obtain⟨hc,h⟩:=h
 refine zm (abI (lo:=(some u3)) (hi:=none) rfl mo ty5 rfl (wK rfl) vD hc) ?_;refine zw ?_;refine zl (yt (s:=Builtin.copy_ #[24,24] 3 #[Sl.v (⟨wH u6.a (Int.toNat u3) u6.cap 1,u6.len - Int.toNat u3,u6.cap - Int.toNat u3⟩:Sl),Sl.v a1]) rfl rfl (fun _=>rfl) (qj _ h ?_))
 rintro v I ⟨u7,rfl,h⟩;exact zrr h
def aaj(B:World)(ro:AH)(a0:Option Addr)(I:AH)(Q:Sl->AH->Prop):=
 ∃p0,a0=some p0/\
 ∃p1,a0=some p1/\
 ∃u2,qb ro I p0=some (Sl.v u2)/\
 ∃u3,qb ro I (p1.add 1)=some (.int .i64 u3)/\
 cutOk (some u3) none u2.len u2.cap/\
 Q (⟨wH u2.a (Int.toNat u3) u2.cap 1,u2.len - Int.toNat u3,u2.cap - Int.toNat u3⟩:Sl) I
theorem agn{a0 Q}(h:Sep ro I->aaj B ro a0 I Q):ac2 B ro a0 I Q:=by
 refine zb h func117 ntmps117 fun h=>?_;unfold aaj at h;refine zw ?_;refine AW.seq ?_;refine AW.drawn0 (fun i=>([0,0,0,3,0,0,0,3,0,0]:List Nat).getD i 2) [] [0,1,2,4,5,6,3,7,8,9] mixed j0 ?_
 refine zM h fun p0 h=>?_;refine zg nf wq ?_;refine zM h fun p1 h=>?_;refine zg nf ty3 ?_;refine zR mo h fun u2 h=>?_;refine zR mj h fun u3 h=>?_;obtain⟨hc,h⟩:=h
 refine Dp rfl rfl rfl rfl (abI (lo:=(some u3)) (hi:=none) rfl mo ty5 rfl (wK rfl) vD hc) ?_
 refine zw ?_;refine vn ?_
 exact zr h
def xp(B:World)(ro:AH)(a0:Option Addr)(a1:Int)(I:AH)(Q:Int->Bool->AH->Prop):=
 ∃p0,a0=some p0/\
 ∃u1,qb ro I p0=some (Sl.v u1)/\
 ∃p2,a0=some p2/\
 ∃u3,qb ro I p2=some (Sl.v u3)/\
 awp prog ro (Builtin.cap_ #[24] 3 #[Sl.v u3]) (fun v I=> ∃(u4:Int),v= .int .i64 u4/\
 if a1<=(i64.wrap (u4 - (u1.len:Int)))then
  ∃p5,a0=some p5/\
  ∃u6,qb ro I p5=some (Sl.v u6)/\
  cutOk none (some (i64.wrap ((u1.len:Int)+a1))) u6.len u6.cap/\
  ∃p7,a0=some p7/\
  stN p7 (fun I=>
  Q (u1.len:Int) true I) [Sl.v (⟨wH u6.a (0) u6.cap 1,Int.toNat (i64.wrap ((u1.len:Int)+a1)) - 0,u6.cap - 0⟩:Sl)] 0 I
 else
 Q 0 false I) I
theorem acE{a0 a1 Q}(h:Sep ro I->xp B ro a0 a1 I Q):wP B ro a0 a1 I Q:=by
 refine zb h func176 ntmps176 fun h=>?_;unfold xp at h;refine zw ?_;refine AW.seq ?_;refine zN h fun p0 h=>?_;refine zf nf wq ?_;refine zL mo h fun u1 h=>?_;refine zm (qD rfl rfl mo rfl rfl) ?_;refine zN h fun p2 h=>?_;refine zf nf wq ?_;refine zL mo h fun u3 h=>?_;refine zl (yt (s:=Builtin.cap_ #[24] 3 #[Sl.v u3]) rfl rfl (fun _=>rfl) (qj _ h ?_))
 rintro v I ⟨u4,rfl,h⟩;refine zi h (fun h=>?_) fun h=>?_
 rotate_left
 .exact zrr h
 refine zN h fun p5 h=>?_;refine zf nf wq ?_;refine zLp mo h fun u6 h=>?_;obtain⟨hc,h⟩:=h
 refine zm (abI (lo:=none) (hi:=(some (i64.wrap ((u1.len:Int)+a1)))) rfl mo ty5 rfl vD (wK rfl) hc) ?_;refine zN h fun p7 h=>?_;refine zf nf wq ?_;refine zs wq h fun I h=>?_;exact zrr h
def kZ(B:World)(ro:AH)(a0:Option Addr)(a1 u0:Int)(Q:Int->AH->Prop)(I:AH):=
 ∃p1,a0=some p1/\
 stN (p1.add 1) (fun I=>
 ∃p2,a0=some p2/\
 ∃u3,qb ro I p2=some (Sl.v u3)/\
 cutOk none (some (i64.wrap (u0+a1))) u3.len u3.cap/\
 ∃p4,a0=some p4/\
 stN p4 (fun I=>
  Q u0 I) [Sl.v (⟨wH u3.a (0) u3.cap 1,Int.toNat (i64.wrap (u0+a1)) - 0,u3.cap - 0⟩:Sl)] 0 I) [.int .i64 0] 0 I
def vQ(B:World)(ro:AH)(a0:Option Addr)(a1 u0:Int)(Q:Int->AH->Prop)(I:AH):=
 wP B ro a0 a1 I fun u1 u2 I=>
 if u2=true then
 Q u1 I
 else
 ∃p3,a0=some p3/\
 ∃u4,qb ro I p3=some (Sl.v u4)/\
 if(u4.a=none)/\(a1<=64)then
 ((0:Int)<=a1/\a1<=64/\(64:Int)<=281474976710656/\1*(64:Int)<=281474976710656)/\
 nw ro I (.cells (aci (.int .u8 0) (Int.toNat 64*1)) 5) fun u5 I=>
 ∃p6,a0=some p6/\
 stN p6 (fun I=>
  Q 0 I) [Sl.v (⟨some ⟨u5,0,none⟩,Int.toNat a1,Int.toNat 64⟩:Sl)] 0 I
 else
 ∃p7,a0=some p7/\
 ∃u8,qb ro I p7=some (Sl.v u8)/\
 awp prog ro (Builtin.cap_ #[24] 3 #[Sl.v u8]) (fun v I=> ∃(u9:Int),v= .int .i64 u9/\
 if a1<=(i64.wrap ((i64.wrap (Int.tdiv u9 2)) - u0))then
  ∃p10,a0=some p10/\
  ∃p11,a0=some p11/\
  ∃p12,a0=some p12/\
  ∃u13,qb ro I p10=some (Sl.v u13)/\
  ∃u14,qb ro I p11=some (Sl.v u14)/\
  ∃u15,qb ro I (p12.add 1)=some (.int .i64 u15)/\
  cutOk (some u15) none u14.len u14.cap/\
  awp prog ro (Builtin.copy_ #[24,24] 3 #[Sl.v u13,Sl.v (⟨wH u14.a (Int.toNat u15) u14.cap 1,u14.len - Int.toNat u15,u14.cap - Int.toNat u15⟩:Sl)]) (fun v I=> ∃(u16:Int),v= .int .i64 u16/\
  kZ B ro a0 a1 u0 Q I) I
 else
 if(i64.wrap ((i64.wrap (9223372036854775807 - u9)) - a1))<u9 then
  False
 else
 ∃p17,a0=some p17/\
 ∃p18,a0=some p18/\
 ∃p19,a0=some p19/\
 ∃u20,qb ro I p17=some (Sl.v u20)/\
 ∃u21,qb ro I (p18.add 1)=some (.int .i64 u21)/\
 cutOk (some u21) none u20.len u20.cap/\
 ∃u22,qb ro I (p19.add 1)=some (.int .i64 u22)/\
 aeF B ro (⟨wH u20.a (Int.toNat u21) u20.cap 1,u20.len - Int.toNat u21,u20.cap - Int.toNat u21⟩:Sl) (i64.wrap (u22+a1)) I fun u23 I=>
 ∃p24,a0=some p24/\
 stN p24 (fun I=>
  kZ B ro a0 a1 u0 Q I) [Sl.v u23] 0 I) I
def vA(B:World)(ro:AH)(a0:Option Addr)(a1 u0:Int)(Q:Int->AH->Prop)(u1:Bool)(I:AH):=
 if u1=true then
 agL B ro a0 I fun I=>
 vQ B ro a0 a1 u0 Q I
 else
 vQ B ro a0 a1 u0 Q I
def aaU(B:World)(ro:AH)(a0:Option Addr)(a1:Int)(I:AH)(Q:Int->AH->Prop):=
 ad5 B ro a0 I fun u0 I=>
 if u0=0 then
 ∃p1,a0=some p1/\
 ∃u2,qb ro I (p1.add 1)=some (.int .i64 u2)/\
 vA B ro a0 a1 u0 Q (!(decide (u2=0))) I
 else
 vA B ro a0 a1 u0 Q false I
theorem agW{a0 a1 Q}(h:Sep ro I->aaU B ro a0 a1 I Q):pi B ro a0 a1 I Q:=by
 refine zb h func177 ntmps177 fun h=>?_;unfold aaU at h;refine zC func224 h fun u0 I h=>?_;refine AW.seqJ (fun fr I=>qg [(0,.pointer a0),(1,.int .i64 a1),(5,.int .i64 u0)] fr/\vQ B ro a0 a1 u0 Q I) ?_ ?_
 rotate_left
 .refine zw ?_;refine qn 6 (decide (u0=0)) mg h (fun fr I=> ∃(u1:Bool),qg [(0,.pointer a0),(1,.int .i64 a1),(5,.int .i64 u0),(19,.bool u1)] fr/\vA B ro a0 a1 u0 Q u1 I) ?_ ?_ ?_
  .intro h e2 hk2;refine zy e2 ?_;obtain⟨p2,hc,h⟩:=h
   refine qo (qC rfl (by rw[<-hc];try rfl)) rfl rfl rfl rfl e2 ?_
   refine qo (qK rfl nf rfl ty3 z8 rfl) rfl rfl rfl rfl e2 ?_
   obtain⟨u3,hc,h⟩:=h
   refine Lyb rfl rfl rfl rfl e2 (wU rfl mj rfl rfl hc ?_)
   refine zv e2 ?_;exact hk2 _ _ ⟨_,FL,h⟩
  .intro h e2 hk2;refine zv e2 ?_;exact hk2 _ _ ⟨_,FL,h⟩
  rintro fr I ⟨u1,hl,h⟩;unfold vA at h;refine Lfr hl ?_
  refine zj h (fun h=>?_) fun h=>?_
  rotate_left
  .refine zw ?_;exact⟨FL,h⟩
  refine zc func225 h ?_;rintro v I ⟨rfl,h⟩;refine zw ?_;exact⟨FL,h⟩
 rintro fr I ⟨hl,h⟩;refine AW.weaken ?_ hl (HLe.refl _)
 unfold vQ at h;refine AW.seq ?_;refine zc func176 h ?_;rintro v I ⟨u4,u5,rfl,h⟩;refine zj h (fun h=>?_) fun h=>?_
 .exact zr h
 refine zw ?_;refine AW.seq ?_;refine zN h fun p6 h=>?_;refine zf nf wq ?_;refine zL mo h fun u7 h=>?_;refine zm (anP rfl mo rfl rfl) ?_;refine zw ?_;refine qx 3 u7.a.isNone [(0,.pointer a0),(1,.int .i64 a1),(5,.int .i64 u0),(38,.bool (u7.a.isNone && (decide (a1<=64))))] ?_ ?_ ?_
 .intro e5 hk5
  refine zv e5 ?_;exact hk5 _ (Fe e5)
 .intro e5 hk5
  refine zv e5 ?_;exact hk5 _ (Fe e5)
 intro fr hl
 refine Lfr hl ?_
 refine zw ?_;refine AW.iff rfl (xv vP mg) h (fun h=>?_) (fun h=>?_)
 .refine zw ?_;obtain⟨⟨h0,h1,h2,h3⟩,h⟩:=h
  refine zA (asX rfl mo ty5 rfl rfl h0 h1 h2 h3) h fun u8 h=>?_;refine zN h fun p9 h=>?_;refine zf nf wq ?_;refine zs wq h fun I h=>?_;exact zr h
 refine zN h fun p10 h=>?_;refine zf nf wq ?_;refine zL mo h fun u11 h=>?_;refine zl (yt (s:=Builtin.cap_ #[24] 3 #[Sl.v u11]) rfl rfl (fun _=>rfl) (qj _ h ?_))
 rintro v I ⟨u12,rfl,h⟩;refine zw ?_;refine AW.seqJ (fun fr I=>qg [(0,.pointer a0),(1,.int .i64 a1),(5,.int .i64 u0)] fr/\kZ B ro a0 a1 u0 Q I) ?_ ?_
 .rintro fr I ⟨hl,h⟩;refine AW.weaken ?_ hl (HLe.refl _)
  unfold kZ at h;refine zN h fun p13 h=>?_;refine zf nf ty3 ?_;refine zs ty3 h fun I h=>?_;refine zN h fun p14 h=>?_;refine zf nf wq ?_;refine zLp mo h fun u15 h=>?_;obtain⟨hc,h⟩:=h
  refine zm (abI (lo:=none) (hi:=(some (i64.wrap (u0+a1)))) rfl mo ty5 rfl vD (wK rfl) hc) ?_;refine zN h fun p16 h=>?_;refine zf nf wq ?_;refine zs wq h fun I h=>?_;exact zr h
 refine zw ?_;refine zm (asS rfl rfl rfl z8) ?_;refine zi h (fun h=>?_) fun h=>?_
 .refine AW.drawn0 (fun i=>([0,0,0,3,0,0,0,3,0,0,0,3,0,2]:List Nat).getD i 2) [(7,12),(7,13),(11,12),(11,13)] [0,1,2,4,5,6,8,9,10,3,7,11,12,13] mixed j0 ?_
  refine zM h fun p17 h=>?_;refine zg nf wq ?_;refine zM h fun p18 h=>?_;refine zg nf wq ?_;refine zM h fun p19 h=>?_;refine zg nf ty3 ?_;refine zR mo h fun u20 h=>?_;refine zR mo h fun u21 h=>?_;refine zR mj h fun u22 h=>?_;obtain⟨hc,h⟩:=h
  refine Dp rfl rfl rfl rfl (abI (lo:=(some u22)) (hi:=none) rfl mo ty5 rfl (wK rfl) vD hc) ?_
  refine Dg rfl rfl rfl rfl (yt (s:=Builtin.copy_ #[24,24] 3 #[Sl.v u20,Sl.v (⟨wH u21.a (Int.toNat u22) u21.cap 1,u21.len - Int.toNat u22,u21.cap - Int.toNat u22⟩:Sl)]) rfl rfl (fun _=>rfl) (qj _ h ?_))
  rintro v I ⟨u23,rfl,h⟩;refine vn ?_
  refine zw ?_;exact⟨FL,h⟩
 refine zi h (fun h=>?_) fun h=>?_
 .exact h.elim
 refine AW.drawn0 (fun i=>([0,0,0,0,3,0,0,0,3,0,0,0,0,3,0,0,2,0,0,2]:List Nat).getD i 2) [(4,9),(4,16),(8,9),(8,16),(13,15),(13,16)] [0,1,2,3,5,6,7,10,11,12,14,4,8,9,13,15,16,17,18,19] mixed j0 ?_
 refine zM h fun p24 h=>?_;refine zg nf wq ?_;refine zM h fun p25 h=>?_;refine zg nf ty3 ?_;refine zM h fun p26 h=>?_;refine zg nf ty3 ?_;refine zR mo h fun u27 h=>?_;refine zR mj h fun u28 h=>?_;obtain⟨hc,h⟩:=h
 refine Dp rfl rfl rfl rfl (abI (lo:=(some u28)) (hi:=none) rfl mo ty5 rfl (wK rfl) vD hc) ?_
 refine zR mj h fun u29 h=>?_;refine zG func226 h ?_;rintro v I ⟨u30,rfl,h⟩;refine zM h fun p31 h=>?_;refine zg nf wq ?_;refine Dg rfl rfl rfl rfl (aeh rfl wq rfl rfl rfl rfl (pZ h fun I h=>?_))
 refine vn ?_
 refine zw ?_;exact⟨FL,h⟩
def abw(B:World)(ro:AH)(a0:Option Addr)(I:AH)(Q:Int->AH->Prop):=
 ∃p0,a0=some p0/\
 ∃p1,a0=some p1/\
 ∃u2,qb ro I p0=some (Sl.v u2)/\
 ∃u3,qb ro I (p1.add 1)=some (.int .i64 u3)/\
 Q (i64.wrap ((u2.len:Int) - u3)) I
theorem ahp{a0 Q}(h:Sep ro I->abw B ro a0 I Q):ad5 B ro a0 I Q:=by
 refine zb h func224 ntmps224 fun h=>?_;unfold abw at h;refine zw ?_;refine AW.seq ?_;refine AW.drawn0 (fun i=>([0,0,0,3,0,0,0,0,3,0,0]:List Nat).getD i 2) [] [0,1,2,5,6,7,3,4,8,9,10] mixed j0 ?_
 refine zM h fun p0 h=>?_;refine zg nf wq ?_;refine zM h fun p1 h=>?_;refine zg nf ty3 ?_;refine zR mo h fun u2 h=>?_;refine Dp rfl rfl rfl rfl (qD rfl rfl mo rfl rfl) ?_
 refine zR mj h fun u3 h=>?_;refine zw ?_;refine vn ?_
 exact zr h
end G
namespace Wi
open Go SL G Zt
variable{B:World}[Zd B]{ro I I':AH}{tag tag':Nat->Nat}
theorem aoX(d:Str):∀ v∈d.map vU,v.oneCell'=true:=fun v hv=>by
 obtain⟨c,_,rfl⟩:=my.1 hv;rfl
theorem ajF(d:Str):∀ v∈d.map vU,qk v=true:=fun v hv=>by
 obtain⟨c,_,rfl⟩:=my.1 hv;rfl
theorem al2{q n:Nat}{s:Sl}{l:List Value}{Q:Sl->AH->Prop}(h:Row tag I q 5 s l)(hn:1<=n)(hl:l.length+n<=140737488355328)(hc:s.cap<=140737488355328)(h1:∀ v∈l,v.oneCell'=true)
  (hQ:∀ s' tag' I',(∀R,qd R ro tag I tag' I')->Row tag' I' q 5 s' l->l.length+n<=s'.cap->s'.cap<=9223372036854775807->Q s' I'):aeF B ro s (n:Int) I Q:=by
 refine qc.of_calls fun w hw hsep=>?_
 rcases h with⟨rfl,rfl⟩ | ⟨b,cs,ha,htg,hbk,hln,hcp,hle,hg⟩
 .refine(Tryz.bytes_growSlice_nil n w hn (j1 hl)).mono ?_
  rintro e w' ⟨cap2,cells,he,hw',hsz,hroom,hmx,hb⟩
  obtain⟨N,tag',hN,hst,hrow⟩:=abK (tag:=tag) q hw hsep (mH _) hw'
  exact⟨_,N,he,hb,hN,⟨some ⟨w.heap.size,0,none⟩,0,cap2⟩,rfl,hQ _ tag' _ hst (hrow 0 cap2 [] rfl hsz.symm (Nat.zero_le _) z7) (j1 hroom) (by simpa [maxLen]using hmx)⟩
 .have hcur:w.heap[b]?=some (.cells cs 5 (0,0)):=hw b _ (by unfold rd;rw[hsep b _ hbk];exact hbk)
  have htake:cs.toList.take s.len=l:=by
   apply Ld
   intro i
   rw[La]
   split
   .rw[Array.getElem?_toList];exact hg i z6
   .rw[mw z6]
  have:=Tryz.bytes_growSlice_row b s.len s.cap n cs w hcur hcp.symm hle hn (by rw[hln];exact hl) hc (by rw[htake];exact h1)
  unfold Sl.v
  rw[ha]
  refine this.mono ?_
  rintro e w' ⟨cap2,cells,he,hw',hsz,htk,hroom,hmx,hb⟩
  obtain⟨N,tag',hN,hst,hrow⟩:=abK (tag:=tag) q hw hsep (mH _) hw'
  exact⟨_,N,he,hb,hN,⟨some ⟨w.heap.size,0,none⟩,s.len,cap2⟩,rfl,hQ _ tag' _ hst (hrow s.len cap2 l hln hsz.symm z6 (by rw[htk,htake])) (by simp only;omega) (by simpa [maxLen]using hmx)⟩
def afs(tag:Nat->Nat)(I:AH)(r W:Nat)(s:Sl)(l:List Value)(bad:Bool):Prop:=
 s.cap<=9223372036854775807/\∃ lr:Int,Row tag I r 221 ⟨some ⟨W,0,none⟩,4,4⟩ [Sl.v s,.int .i64 0,.int .i8 lr,.bool bad]/\Row tag I (r+64) 5 s l
def qP(tag:Nat->Nat)(I:AH)(r W:Nat)(acc:Str)(bad:Bool):Prop:= ∃s,afs tag I r W s (acc.map vU) bad
theorem afs.keep{R:List Nat}{r W:Nat}{s:Sl}{l:List Value}{bad:Bool}(h:afs tag I r W s l bad)(k:qd R ro tag I tag' I')(h1:r∉R:=by simp)(h2:r+64∉R:=by simp):afs tag' I' r W s l bad:=by
 obtain⟨hc,lr,a,b⟩:=h
 exact⟨hc,lr,a.keep k h1,b.keep k h2⟩
theorem qP.keep{R:List Nat}{r W:Nat}{acc:Str}{bad:Bool}(h:qP tag I r W acc bad)(k:qd R ro tag I tag' I')(h1:r∉R:=by simp)(h2:r+64∉R:=by simp):qP tag' I' r W acc bad:=by
 obtain⟨s,h⟩:=h
 exact⟨s,h.keep k h1 h2⟩
theorem agX{r W n:Nat}{s:Sl}{l:List Value}{bad:Bool}{Q:Int->Bool->AH->Prop}(h:afs tag I r W s l bad)(hs:SL.Sep ro I)(hl:l.length+n<=140737488355328)
  (hyes:l.length+n<=s.cap->∀ s' xs I',qd [r] ro tag I tag I'->xs.length=n->afs tag I' r W s' (l++xs) bad->Q l.length true I') (hno:s.cap<l.length+n->Q 0 false I):
  wP B ro (some ⟨W,0,none⟩) (n:Int) I Q:=by
 refine acE fun _=>?_
 unfold xp
 obtain⟨hcap,lr,h1,h2⟩:=h
 obtain⟨p,hp,hg⟩:=h1.ptr hs z7
 cases hp
 have hln:=h2.len
 have hc:=h2.capAt
 refine⟨_,rfl,s,hg 0 _ rfl,_,rfl,s,hg 0 _ rfl,?_⟩
 refine amY u30 ⟨_,rfl,?_⟩
 rw[qM z6 z6]
 by_cases hroom:l.length+n<=s.cap
 .rw[me z6]
  have e:(⟨wH s.a 0 s.cap 1,Int.toNat (i64.wrap ((s.len:Int)+(n:Int))) - 0,s.cap - 0⟩:Sl)=⟨s.a,l.length+n,s.cap⟩:=by
   rw[uP,hln,qM z6 z6]
   simp only[Nat.sub_zero,Sl.mk.injEq,true_and,and_true];omega
  refine⟨_,rfl,s,hg 0 _ rfl,⟨?_,trivial⟩,_,rfl,?_⟩
  .simp only
   rw[qM z6 z6];omega
  rw[e,hln]
  refine h1.st (i:=0) hs rfl z7 rfl fun I2 st2 r2=>?_
  obtain⟨xs,hx,h3⟩:=h2.more hroom
  exact hyes hroom ⟨s.a,l.length+n,s.cap⟩ xs I2 st2 hx ⟨hcap,lr,r2,h3.keep st2⟩
 .rw[mc z6]
  exact hno z6
theorem ane{r W n:Nat}{s:Sl}{l:List Value}{bad:Bool}{Q:Int->AH->Prop}(h:afs tag I r W s l bad)(hs:SL.Sep ro I)(hl:l.length+n<=140737488355328)(hfull:s.cap<l.length+n)(h1c:∀ v∈l,v.oneCell'=true)
  (hQ:∀ s' xs tag' I',qd [r,r+64] ro tag I tag' I'->xs.length=n->afs tag' I' r W s' (l++xs) bad->Q l.length I'):
  pi B ro (some ⟨W,0,none⟩) (n:Int) I Q:=by
 refine agW fun _=>?_
 unfold aaU
 obtain⟨hcap,lr,h1,h2⟩:=id h
 obtain⟨p,hp,hg⟩:=h1.ptr hs z7
 cases hp
 have hln:=h2.len
 have hc:=h2.capAt
 refine ahp fun _=>?_
 unfold abw
 refine⟨_,rfl,_,rfl,s,hg 0 _ rfl,0,hg 1 _ rfl,?_⟩
 rw[Int.sub_zero,qM z6 z6,hln]
 dsimp only
 suffices hj:vQ B ro (some ⟨W,0,none⟩) (n:Int) (l.length:Int) Q I by
  by_cases h0:(l.length:Int)=0
  .rw[me h0]
   refine⟨_,rfl,0,hg 1 _ rfl,?_⟩
   unfold vA
   rw[mc z8]
   exact hj
  .rw[mc h0]
   unfold vA
   rw[mc z8]
   exact hj
 unfold vQ
 refine agX h hs hl (fun hroom=>mC hroom z6) fun _=>?_
 rw[mc z8]
 refine⟨_,rfl,s,hg 0 _ rfl,?_⟩
 by_cases hsmall:s.a=none/\(n:Int)<=64
 .rw[me hsmall]
  have hnil:s=⟨none,0,0⟩/\l=[]:=by
   rcases h2 with h | ⟨b,cs,ha,_⟩
   .exact h
   .rw[hsmall.1]at ha;cases ha
  obtain⟨rfl,rfl⟩:=hnil
  have hn64:=hsmall.2
  refine⟨⟨z6,hn64,z8,z8⟩,?_⟩
  refine asd (tag:=tag) (r+64) (zv:= .int .u8 0) (n:=64) hs rfl fun x tag1 I1 st1 r1=>?_
  refine⟨_,rfl,?_⟩
  have r1':Row tag1 I1 (r+64) 5 ⟨some ⟨x,0,none⟩,n,64⟩ ([]++(List.replicate 64 (Value.int .u8 0)).take n):=r1.take (n:=n) y6
  have hx64:(64:Nat)<=9223372036854775807:=by decide
  rw[mr]
  refine(h1.keep (st1 [])).st (i:=0) (st1 []).sep rfl z7 rfl fun I2 st2 r2=>?_
  refine hQ ⟨some ⟨x,0,none⟩,n,64⟩ ((List.replicate 64 (Value.int .u8 0)).take n) tag1 I2 (((st1 _).trans (st2.mono z7))) y6 ⟨hx64,lr,r2,r1'.keep st2⟩
 .rw[mc hsmall]
  refine⟨_,rfl,s,hg 0 _ rfl,?_⟩
  refine amY u30 ⟨_,rfl,?_⟩
  have hd:Int.tdiv (s.cap:Int) 2=((s.cap / 2:Nat):Int):=by
   rw[Int.tdiv_eq_ediv_of_nonneg z6];omega
  rw[hd,qM (n:=((s.cap / 2:Nat):Int)) z6 z6,qM (n:=((s.cap / 2:Nat):Int) - (l.length:Int)) z6 z6,mc z6,qM (n:=9223372036854775807 - (s.cap:Int)) z6 z6,qM (n:=9223372036854775807 - (s.cap:Int) - (n:Int)) z6 z6,mc z6]
  refine⟨_,rfl,_,rfl,_,rfl,s,hg 0 _ rfl,0,hg 1 _ rfl,?_,0,hg 1 _ rfl,?_⟩
  .exact⟨trivial,z8,by simp only[cutHi];omega⟩
  rw[Int.zero_add,qM z6 z6,show(⟨wH s.a (Int.toNat 0) s.cap 1,s.len - Int.toNat 0,s.cap - Int.toNat 0⟩:Sl)=s from by rw[show Int.toNat 0=0 from rfl,uP];try rfl]
  refine al2 h2 z6 hl z6 h1c fun s1 tag1 I1 st1 r1 hc1 hc2=>?_
  refine⟨_,rfl,?_⟩
  refine(h1.keep (st1 [])).st (i:=0) (st1 []).sep rfl z7 rfl fun I2 st2 r2=>?_
  unfold kZ
  refine⟨_,rfl,?_⟩
  refine r2.st (i:=1) st2.sep rfl z7 rfl fun I3 st3 r3=>?_
  obtain⟨p3,hp3,hg3⟩:=r3.ptr st3.sep z7
  cases hp3
  have e:(⟨wH s1.a 0 s1.cap 1,Int.toNat (i64.wrap ((l.length:Int)+(n:Int))) - 0,s1.cap - 0⟩:Sl)=⟨s1.a,l.length+n,s1.cap⟩:=by
   rw[uP,qM z6 z6]
   simp only[Nat.sub_zero,Sl.mk.injEq,true_and,and_true];omega
  refine⟨_,rfl,s1,hg3 0 _ rfl,⟨?_,trivial⟩,_,rfl,?_⟩
  .simp only
   rw[qM z6 z6];omega
  rw[e]
  refine r3.st (i:=0) st3.sep rfl z7 rfl fun I4 st4 r4=>?_
  obtain⟨xs,hx,r5⟩:=r1.more (n:=n) hc1
  refine hQ ⟨s1.a,l.length+n,s1.cap⟩ xs tag1 I4 ((st1 _).trans ((st2.mono z7).trans ((st3.mono z7).trans (st4.mono z7)))) hx ⟨hc2,lr,r4,((r5.keep st2).keep st3).keep st4⟩
theorem atB:ql prog 5 (.int .u8 0) 1 1:=ql.of y0
theorem aih{r W:Nat}{s:Sl}{acc d:Str}{xs:List Value}{bad:Bool}{x:Value}{t2:TypeId}{Q:Int->AH->Prop}(h:afs tag I r W s (acc.map vU++xs) bad)(hs:SL.Sep ro I)(hx:xs.length=d.length)(hsrc:Src prog ro I x (d.map vU))
  (hQ:∀ n I',qd [r+64] ro tag I tag I'->qP tag I' r W (acc++d) bad->Q n I'):
  ∃p25_6:Addr,(some ⟨W,0,none⟩:Option Addr)=some p25_6/\∃ (x27_7:Sl),qb ro I p25_6=some (Sl.v x27_7)/\cutOk (some (acc.length:Int)) none x27_7.len x27_7.cap/\
   awp prog ro (Builtin.copy_ #[24,t2] 3 #[Sl.v (⟨wH x27_7.a (Int.toNat (acc.length:Int)) x27_7.cap 1,x27_7.len - Int.toNat (acc.length:Int),x27_7.cap - Int.toNat (acc.length:Int)⟩:Sl),x]) (fun v I=> ∃(x31_8:Int),v= .int .i64 x31_8/\Q x31_8 I) I:=by
 obtain⟨hcap,lr,h1,h2⟩:=h
 obtain⟨p,hp,hg⟩:=h1.ptr hs z7
 cases hp
 have hln:=h2.len
 simp only[mU,ml]at hln
 refine⟨_,rfl,s,hg 0 _ rfl,⟨trivial,z6,by simp only[cutHi];omega⟩,?_⟩
 rw[mr]
 refine alU h2 hs u30 atB hsrc y6 (ajF d) fun I1 st1 r1=>?_
 refine⟨_,rfl,hQ _ I1 st1 ⟨s,hcap,lr,h1.keep st1,?_⟩⟩
 rw[List.take_left' z7]at r1
 rw[mJ];exact r1
theorem agb{r W:Nat}{acc d:Str}{s:Sl}{bad:Bool}{Q:Int->Value->AH->Prop}(h:qP tag I r W acc bad)(hs:SL.Sep ro I)(hl:acc.length+d.length<=140737488355328)(hd:s.len=d.length)
  (hsrc:∀ tag' I',qd [r,r+64] ro tag I tag' I'->SL.qU ro I' s (d.map vU)) (hQ:∀ n v tag' I',qd [r,r+64] ro tag I tag' I'->qP tag' I' r W (acc++d) bad->Q n v I'):
  yv B ro (some ⟨W,0,none⟩) s I Q:=by
 refine agm fun _=>?_
 unfold aai
 obtain⟨s0,hcap,lr,h1,h2⟩:=h
 refine⟨_,rfl,?_⟩
 refine h1.st (i:=2) hs rfl z7 rfl fun I1 st1 r1=>?_
 have hb:afs tag I1 r W s0 (acc.map vU) bad:=⟨hcap,0,r1,h2.keep st1⟩
 rw[hd]
 refine agX hb st1.sep (j1 hl) (fun hroom s2 xs I2 st2 hx hb2=>?_) fun hno=>?_
 .rw[mc z7]
  unfold vz
  have st12:qd [r,r+64] ro tag I tag I2:=(st1.mono z7).trans (st2.mono z7)
  rw[ml]
  exact aih (t2:=24) (Q:=fun n I=>Q n .nilIface I) hb2 st2.sep hx (hsrc _ _ st12).src fun n I3 st3 h3=>hQ n _ tag I3 (st12.trans (st3.mono z7)) h3
 .rw[me z7]
  refine ane hb st1.sep (j1 hl) hno (aoX acc) fun s2 xs tag2 I2 st2 hx hb2=>?_
  unfold vz
  have st12:qd [r,r+64] ro tag I tag2 I2:=(st1.mono z7).trans st2
  rw[ml]
  exact aih (t2:=24) (Q:=fun n I=>Q n .nilIface I) hb2 st2.sep hx (hsrc _ _ st12).src fun n I3 st3 h3=>hQ n _ tag2 I3 (st12.trans (st3.mono z7)) h3
theorem aks{r W:Nat}{acc:Str}{b:ByteArray}{bad:Bool}{Q:Int->Value->AH->Prop}(h:qP tag I r W acc bad)(hs:SL.Sep ro I)(hl:acc.length+(L b).length<=140737488355328)
  (hQ:∀ n v tag' I',qd [r,r+64] ro tag I tag' I'->qP tag' I' r W (acc++L b) bad->Q n v I'):
  yl B ro (some ⟨W,0,none⟩) b I Q:=by
 refine ad7 fun _=>?_
 unfold yo
 obtain⟨s0,hcap,lr,h1,h2⟩:=h
 refine⟨_,rfl,?_⟩
 refine h1.st (i:=2) hs rfl z7 rfl fun I1 st1 r1=>?_
 have hb:afs tag I1 r W s0 (acc.map vU) bad:=⟨hcap,0,r1,h2.keep st1⟩
 rw[show(b.size:Int)=((L b).length:Nat)from rfl]
 refine agX hb st1.sep (j1 hl) (fun hroom s2 xs I2 st2 hx hb2=>?_) fun hno=>?_
 .rw[mc z7]
  unfold wO
  have st12:qd [r,r+64] ro tag I tag I2:=(st1.mono z7).trans (st2.mono z7)
  rw[ml]
  exact aih (t2:=9) (Q:=fun n I=>Q n .nilIface I) hb2 st2.sep hx (amZ b) fun n I3 st3 h3=>hQ n _ tag I3 (st12.trans (st3.mono z7)) h3
 .rw[me z7]
  refine ane hb st1.sep (j1 hl) hno (aoX acc) fun s2 xs tag2 I2 st2 hx hb2=>?_
  unfold wO
  have st12:qd [r,r+64] ro tag I tag2 I2:=(st1.mono z7).trans st2
  rw[ml]
  exact aih (t2:=9) (Q:=fun n I=>Q n .nilIface I) hb2 st2.sep hx (amZ b) fun n I3 st3 h3=>hQ n _ tag2 I3 (st12.trans (st3.mono z7)) h3