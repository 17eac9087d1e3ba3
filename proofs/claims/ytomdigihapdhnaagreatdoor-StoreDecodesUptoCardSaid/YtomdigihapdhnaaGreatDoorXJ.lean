import Derived.Test.YtomdigihapdhnaaGreatDoorXI
set_option linter.all false
set_option maxRecDepth 99999
set_option maxHeartbeats 0
open Go.IntKind(i64)
namespace Go.Proofs.YtomdigihapdhnaaGreatDoor
namespace Zt
open Go SL Pa Wi
variable{hl:Int}{r r':Rd}{a b:Str}{k:Str×Int}{t:Tbl}
def rsess(r:Rd):(Int×xF)×Rd:=
 let a1:=qa r
 let a2:=qa a1.2
 let a3:=qa a2.2
 let a4:=qa a3.2
 let a5:=qa a4.2
 let a6:=rblob a5.2
 (((a1.1:Int),⟨(a2.1:Int),(a3.1:Int),(a4.1:Int),(a5.1:Int),a6.1⟩),a6.2)
def ag6(last hl:Int)(ns:List Int)(p:Int×xF):Prop:=
 p.1<=last\/hl<p.1\/okN p.2.nonce=false\/p.2.nonce∈ns\/p.2.lease<1\/1048576<p.2.lease\/(p.2.req=0/\0<p.2.reply.length)
instance (last hl:Int) (ns:List Int) (p:Int×xF):Decidable (ag6 last hl ns p):=by unfold ag6;infer_instance
def pt(hl:Int):Nat->Rd->Int->List (Int×xF)->Option (List (Int×xF)×Rd)
 | 0,r,_,acc=>some (acc,r)
 | n+1,r,last,acc=>if ag6 last hl (acc.map (·.2.nonce)) (rsess r).1 then none else pt hl n (rsess r).2 (rsess r).1.1 (acc++[(rsess r).1])
def adV(hl:Int):Nat->Rd->Int->List Int->Option Rd
 | 0,r,_,_=>some r
 | n+1,r,last,ns=>if(rsess r).2.err≠0\/ag6 last hl ns (rsess r).1 then none else adV hl n (rsess r).2 (rsess r).1.1 (ns++[(rsess r).1.2.nonce])
def aaG(r:Rd):Option (jf×Rd):=
 let a1:=qa r
 let a2:=qa a1.2
 if a1.1<1\/64<a2.1 then none
 else match pt a1.1 a2.1 a2.2 0 []with
  | none=>none
  | some (l,r')=>if r'.err≠0 then none else some (⟨a1.1,l⟩,r')
def aaY:Nat->Rd->Str->Tbl->Option (Tbl×Rd)
 | 0,r,_,acc=>some (acc,r)
 | n+1,r,last,acc=>match aaG (rblob r).2 with
  | none=>none
  | some (h,r')=>if qV (rblob r).1=false\/¬ last<(rblob r).1 then none else aaY n r' (rblob r).1 (acc++[((rblob r).1,h)])
def pd(b:Str):Option Tbl:=match aaY (qa ⟨b,0⟩).1 (qa ⟨b,0⟩).2 [] []with
 | none=>none
 | some (t,r)=>if r.err≠0\/0<r.rest.length then none else some t
def adh:Nat->Rd->Str->Option Rd
 | 0,r,_=>some r
 | n+1,r,before=>
  let a:=rblob r
  let a1:=qa a.2
  let a2:=qa a1.2
  if a2.2.err≠0\/qV a.1=false\/¬ before<a.1\/a1.1<1\/64<a2.1 then none
  else match adV a1.1 a2.1 a2.2 0 []with
   | none=>none
   | some r'=>adh n r' a.1
def aea(b:Str):Bool:=match adh (qa ⟨b,0⟩).1 (qa ⟨b,0⟩).2 []with
 | none=>false
 | some r=>decide (r.err=0) && decide (r.rest.length=0)
def yy(p:Int×xF):Str:=qO p.1.toNat++(qO p.2.nonce.toNat++(qO p.2.lease.toNat++(qO p.2.beats.toNat++(qO p.2.req.toNat++ue p.2.reply))))
structure ago(p:Int×xF):Prop where
 n:qY p.1=true
 nonce:qY p.2.nonce=true
 lease:qY p.2.lease=true
 beats:qY p.2.beats=true
 req:qY p.2.req=true
 reply:p.2.reply.length<4611686018427387904
theorem aiI(h:(rsess r).2.err=0):r.err=0/\r.rest=yy (rsess r).1++(rsess r).2.rest/\ago (rsess r).1:=by
 have h6:(rblob (qa (qa (qa (qa (qa r).2).2).2).2).2).2.err=0:=h
 have h5:=pO h6
 have h4:=wV h5
 have h3:=wV h4
 have h2:=wV h3
 have h1:=wV h2
 refine⟨wV h1,?_,⟨vu _,vu _,vu _,vu _,vu _,(zB h6).1⟩⟩
 unfold yy rsess
 simp only[mr,mI]
 rw[<-(zB h6).2,<-(wo h5).2,<-(wo h4).2,<-(wo h3).2,<-(wo h2).2]
 exact(wo h1).2
theorem apa{p:Int×xF}(h:ago p):aal (a,false) p=(a++yy p,false):=by
 unfold aal yy
 simp only[nj,Lb]
 rw[wnum_yes h.n,wnum_yes h.nonce,wnum_yes h.lease,wnum_yes h.beats,wnum_yes h.req,uQ h.reply]
 simp only[mI]
theorem ajR:∀ (l:List (Int×xF)) {a:Str},(∀p∈l,ago p)->l.foldl aal (a,false)=(a++l.flatMap yy,false)
 | [],a,_=>by simp
 | p::l,a,h=>by
  rw[nj,apa (h p z7),ajR l fun q hq=>h q (by simp[hq])]
  simp
theorem aeb:∀ {n:Nat} {r:Rd} {last:Int} {acc l:List (Int×xF)} {r':Rd},pt hl n r last acc=some (l,r')->r'.err=0->r.err=0
 | 0,r,last,acc,l,r',h,e=>by cases h;exact e
 | n+1,r,last,acc,l,r',h,e=>by
  unfold pt at h
  split at h
  .cases h
  .exact(aiI (aeb h e)).1
theorem ani:∀ {n:Nat} {r:Rd} {last:Int} {acc l:List (Int×xF)} {r':Rd},pt hl n r last acc=some (l,r')->r'.err=0->adV hl n r last (acc.map (·.2.nonce))=some r'
 | 0,r,last,acc,l,r',h,e=>by cases h;rfl
 | n+1,r,last,acc,l,r',h,e=>by
  unfold pt at h
  split at h
  .cases h
  .rename_i c
   have e1:=aeb h e
   have:=ani h e
   unfold adV
   rw[mc (by rintro(h | h);exact h e1;exact c h)]
   rw[mJ]at this
   exact this
theorem anj:∀ {n:Nat} {r:Rd} {last:Int} {acc:List (Int×xF)} {r':Rd},adV hl n r last (acc.map (·.2.nonce))=some r'->r.err=0->r'.err=0/\∃ l,pt hl n r last acc=some (l,r')
 | 0,r,last,acc,r',h,e=>by cases h;exact⟨e,acc,rfl⟩
 | n+1,r,last,acc,r',h,e=>by
  unfold adV at h
  split at h
  .cases h
  .rename_i c
   rw[not_or]at c
   obtain⟨k1,l,k2⟩:=anj (acc:=acc++[(rsess r).1]) (by rw[mJ];exact h) (j1 c.1)
   refine⟨k1,l,?_⟩
   unfold pt
   rw[mc c.2]
   exact k2
structure arm(last hl:Int)(l:List (Int×xF)):Prop where
 up:(l.map (·.1)).Pairwise (· < ·)
 lo:∀ p∈l,last<p.1
 hi:∀ p∈l,p.1<=hl
 ok:∀ p∈l,ago p
theorem ank:∀ {n:Nat} {r:Rd} {last:Int} {acc l:List (Int×xF)} {r':Rd},pt hl n r last acc=some (l,r')->r'.err=0->∃ l',l=acc++l'/\l'.length=n/\r.rest=l'.flatMap yy++r'.rest/\arm last hl l'
 | 0,r,last,acc,l,r',h,e=>by
  cases h
  exact⟨[],z7,rfl,rfl,⟨z7,(fun p h=>by cases h),(fun p h=>by cases h),(fun p h=>by cases h)⟩⟩
 | n+1,r,last,acc,l,r',h,e=>by
  unfold pt at h
  split at h
  .cases h
  .rename_i c
   have e1:=aeb h e
   obtain⟨_,s1,s2⟩:=aiI e1
   obtain⟨l',h1,h2,h3,h4⟩:=ank h e
   unfold ag6 at c
   rw[not_or,not_or]at c
   obtain⟨c1,c2,_⟩:=c
   generalize (rsess r).1=p at*
   refine⟨p::l',by rw[h1];simp,by simp[h2],?_,⟨?_,fun q hq=>?_,fun q hq=>?_,fun q hq=>?_⟩⟩
   .rw[na,mI,<-h3];exact s1
   .rw[nx,nT]
    refine⟨fun x hx=>?_,h4.up⟩
    obtain⟨q,hq,rfl⟩:=my.1 hx
    exact h4.lo q hq
   .rcases mD.1 hq with rfl | hq
    .omega
    .have:=h4.lo q hq;omega
   .rcases mD.1 hq with rfl | hq
    .omega
    .exact h4.hi q hq
   .rcases mD.1 hq with rfl | hq
    .exact s2
    .exact h4.ok q hq
def vv(p:Str×jf):Str:=ue p.1++(qO p.2.last.toNat++(qO p.2.live.length++p.2.live.flatMap yy))
structure ajS(h:jf):Prop where
 last:1<=h.last/\h.last<=4611686018427387903
 len:h.live.length<=64
 live:arm 0 h.last h.live
theorem amf{h:jf}(e:aaG r=some (h,r')):r'.err=0/\r.err=0/\r.rest=qO h.last.toNat++(qO h.live.length++h.live.flatMap yy)++r'.rest/\ajS h:=by
 unfold aaG at e
 simp only at e
 split at e
 .cases e
 rename_i c
 cases hk:pt (qa r).1 (qa (qa r).2).1 (qa (qa r).2).2 0 []with
 | none=>rw[hk]at e;cases e
 | some x=>
  obtain⟨l,r2⟩:=x
  rw[hk]at e
  simp only at e
  split at e
  .cases e
  rename_i c2
  cases e
  have c2:r'.err=0:=by simpa using c2
  have e2:=aeb hk c2
  have e1:=wV e2
  obtain⟨l',h1,h2,h3,h4⟩:=ank hk c2
  have h1:l=l':=by simpa using h1
  subst h1
  have lt1:=km r
  refine⟨c2,wV e1,?_,⟨by simp only;omega,by simp only;omega,h4⟩⟩
  simp only[mr,h2,mI]
  rw[<-h3,<-(wo e2).2]
  exact(wo e1).2
structure ai4(b:Str)(t:Tbl):Prop where
 up:(t.map (·.1)).Pairwise (· < ·)
 lo:∀ p∈t,b<p.1
 names:∀ p∈t,qV p.1=true
 ok:∀ p∈t,ajS p.2
theorem aqz:∀ {n:Nat} {r:Rd} {last:Str} {acc t:Tbl} {r':Rd},aaY n r last acc=some (t,r')->r'.err=0->r.err=0
 | 0,r,last,acc,t,r',h,e=>by cases h;exact e
 | n+1,r,last,acc,t,r',h,e=>by
  unfold aaY at h
  cases hk:aaG (rblob r).2 with
  | none=>rw[hk]at h;cases h
  | some x=>obtain⟨hh,r2⟩:=x;exact pO (amf hk).2.1
theorem apb:∀ {n:Nat} {r:Rd} {last:Str} {acc t:Tbl} {r':Rd},aaY n r last acc=some (t,r')->r'.err=0->∃ t',t=acc++t'/\t'.length=n/\r.rest=t'.flatMap vv++r'.rest/\ai4 last t'
 | 0,r,last,acc,t,r',h,e=>by
  cases h
  exact⟨[],z7,rfl,rfl,⟨z7,(fun p h=>by cases h),(fun p h=>by cases h),(fun p h=>by cases h)⟩⟩
 | n+1,r,last,acc,t,r',h,e=>by
  unfold aaY at h
  cases hk:aaG (rblob r).2 with
  | none=>rw[hk]at h;cases h
  | some x=>
   obtain⟨hh,r2⟩:=x
   rw[hk]at h
   simp only at h
   split at h
   .cases h
   rename_i c
   rw[not_or,Bool.not_eq_false,mE]at c
   obtain⟨k1,k2,k3,k4⟩:=amf hk
   obtain⟨t',h1,h2,h3,h4⟩:=apb h e
   have s:=(zB k2).2
   generalize (rblob r).1=p at*
   refine⟨(p,hh)::t',by rw[h1];simp,by simp[h2],?_,⟨?_,fun q hq=>?_,fun q hq=>?_,fun q hq=>?_⟩⟩
   .rw[s,k3,h3,na]
    unfold vv
    simp only[mI]
   .rw[nx,nT]
    refine⟨fun x hx=>?_,h4.up⟩
    obtain⟨q,hq,rfl⟩:=my.1 hx
    exact h4.lo q hq
   .rcases mD.1 hq with rfl | hq
    .exact c.2
    .exact List.lt_trans c.2 (h4.lo q hq)
   .rcases mD.1 hq with rfl | hq
    .exact c.1
    .exact h4.names q hq
   .rcases mD.1 hq with rfl | hq
    .exact k4
    .exact h4.ok q hq
theorem adi{α β:Type}{f g:β->α->β}:∀ (l:List α) (a:β),(∀a,∀y∈l,f a y=g a y)->l.foldl f a=l.foldl g a
 | [],_,_=>rfl
 | y::l,a,h=>by
  rw[nj,nj,h a y z7]
  exact adi l _ fun a z hz=>h a z (by simp[hz])
theorem aoe{p:Str×jf}(hn:qV p.1=true)(g:ajS p.2):uI (a,false) p=(a++vv p,false):=by
 have nd:(p.2.live.map (·.1)).Nodup:=g.live.up.imp fun h=>Int.ne_of_lt h
 have e1:numsH p.2=p.2.live.map (·.1):=(anh (List.Perm.refl _) (g.live.up.imp fun h=>Int.le_of_lt h)).symm
 have e2:∀ y∈p.2.live,yZ p.2 y.1=y:=fun y hy=>by
  unfold yZ
  rw[yn nd hy];try rfl
 have hl:=adw hn
 have l1:=g.last
 have l2:=g.len
 unfold uI yP vv
 rw[e1,List.foldl_map,adi (g:=aal) _ _ fun a y hy=>by rw[e2 y hy]]
 simp only[nj,Lb]
 rw[uQ z6,wnum_yes (xH.2 z6),wnum_yes (xH.2 z6),ajR _ g.live.ok]
 simp only[mr,mI]
theorem aiJ:∀ (t:Tbl) {a:Str},(∀p∈t,qV p.1=true/\ajS p.2)->t.foldl uI (a,false)=(a++t.flatMap vv,false)
 | [],a,_=>by simp
 | p::t,a,h=>by
  rw[nj,aoe (h p z7).1 (h p z7).2,aiJ t fun q hq=>h q (by simp[hq])]
  simp
theorem ai4.nd(g:ai4 b t):(t.map (·.1)).Nodup:=g.up.imp fun h e=>by rw[e]at h;exact List.lt_irrefl _ h
theorem apc(g:ai4 b t)(hl:t.length<4611686018427387904):aaF t=qO t.length++t.flatMap vv:=by
 have e1:homesT t=t.map (·.1):=(ang (List.Perm.refl _) (g.up.imp fun h=>List.le_of_lt h)).symm
 have e2:∀ y∈t,(y.1,ky t y.1)=y:=fun y hy=>by
  unfold ky
  rw[yn g.nd (k:=y.1) (a:=y.2) hy];try rfl
 unfold aaF akv adS
 rw[e1,List.foldl_map,adi (g:=uI) _ _ fun a y hy=>by rw[e2 y hy],wnum_yes (xH.2 z6),aiJ _ fun p hp=>⟨g.names p hp,g.ok p hp⟩]
 simp[adg]
theorem ai5(h:pd b=some t):aaF t=b/\ai4 [] t/\b=qO t.length++t.flatMap vv:=by
 unfold pd at h
 cases hk:aaY (qa ⟨b,0⟩).1 (qa ⟨b,0⟩).2 [] []with
 | none=>rw[hk]at h;cases h
 | some x=>
  obtain⟨t2,r⟩:=x
  rw[hk]at h
  simp only at h
  split at h
  .cases h
  rename_i c
  cases h
  rw[not_or,mE]at c
  obtain⟨t',h1,h2,h3,h4⟩:=apb hk c.1
  have h1:t=t':=by simpa using h1
  subst h1
  have e0:=wo (aqz hk c.1)
  have hr:r.rest=[]:=mG z6
  rw[hr,nN]at h3
  have e1:b=qO t.length++t.flatMap vv:=by rw[<-h3,h2];exact e0.2
  have lt:=km ⟨b,0⟩
  exact⟨by rw[apc h4 z6];exact e1.symm,h4,e1⟩
theorem apd:∀ {n:Nat} {r:Rd} {last:Str} {acc t:Tbl} {r':Rd},aaY n r last acc=some (t,r')->adh n r last=some r'
 | 0,r,last,acc,t,r',h=>by cases h;rfl
 | n+1,r,last,acc,t,r',h=>by
  unfold aaY at h
  cases hk:aaG (rblob r).2 with
  | none=>rw[hk]at h;cases h
  | some x=>
   obtain⟨hh,r2⟩:=x
   rw[hk]at h
   simp only at h
   split at h
   .cases h
   rename_i c
   rw[not_or]at c
   have:=apd h
   unfold aaG at hk
   simp only at hk
   split at hk
   .cases hk
   rename_i c1
   cases hq:pt (qa (rblob r).2).1 (qa (qa (rblob r).2).2).1 (qa (qa (rblob r).2).2).2 0 []with
   | none=>rw[hq]at hk;cases hk
   | some x=>
    obtain⟨l,r3⟩:=x
    rw[hq]at hk
    simp only at hk
    split at hk
    .cases hk
    rename_i c2
    cases hk
    have c2:r2.err=0:=by simpa using c2
    unfold adh
    simp only
    have e9:=ani hq c2
    simp only[List.map_nil]at e9
    rw[mc,e9]
    .exact this
    .rintro(h | h | h | h | h)
     .exact h (aeb hq c2)
     .exact c.1 h
     .exact c.2 h
     .exact c1 (.inl h)
     .exact c1 (.inr h)
theorem ape:∀ {n:Nat} {r:Rd} {last:Str} {acc:Tbl} {r':Rd},adh n r last=some r'->r.err=0->r'.err=0/\∃ t,aaY n r last acc=some (t,r')
 | 0,r,last,acc,r',h,e=>by cases h;exact⟨e,acc,rfl⟩
 | n+1,r,last,acc,r',h,e=>by
  unfold adh at h
  simp only at h
  split at h
  .cases h
  rename_i c
  rw[not_or,not_or,not_or,not_or]at c
  obtain⟨c1,c2,c3,c4,c5⟩:=c
  cases hq:adV (qa (rblob r).2).1 (qa (qa (rblob r).2).2).1 (qa (qa (rblob r).2).2).2 0 []with
  | none=>rw[hq]at h;cases h
  | some r2=>
   rw[hq]at h
   obtain⟨k1,l,k2⟩:=anj (acc:=[]) hq (j1 c1)
   obtain⟨m1,t,m2⟩:=ape (acc:=acc++[((rblob r).1,⟨((qa (rblob r).2).1:Nat),l⟩)]) h k1
   refine⟨m1,t,?_⟩
   have hh:aaG (rblob r).2=some (⟨((qa (rblob r).2).1:Nat),l⟩,r2):=by
    unfold aaG
    simp only
    rw[mc (by rintro(h | h);exact c4 h;exact c5 h),k2]
    simp only
    rw[mc (j1 k1)]
   unfold aaY
   rw[hh]
   simp only
   rw[mc (by rintro(h | h);exact c2 h;exact c3 h)]
   exact m2
theorem aqA:∀ {n:Nat} {r:Rd} {last:Str} {r':Rd},adh n r last=some r'->r.err≠0->r'.err≠0
 | 0,r,last,r',h,e=>by cases h;exact e
 | n+1,r,last,r',h,e=>by
  unfold adh at h
  simp only at h
  rw[me (.inl (by rw[ahQ e,aah (r:=r) e,aah (r:=r) e];exact e))]at h
  cases h
theorem aof(b:Str):aea b=(pd b).isSome:=by
 unfold aea pd
 cases hk:aaY (qa ⟨b,0⟩).1 (qa ⟨b,0⟩).2 [] []with
 | some x=>
  obtain⟨t,r⟩:=x
  rw[apd hk]
  simp only
  by_cases c:r.err=0/\r.rest.length=0
  .rw[mc z6];simp[c.1,c.2]
  .rw[me z6]
   by_cases c1:r.err=0
   .have:¬ r.rest.length=0:=fun h=>c ⟨c1,h⟩
    simp only[c1,this,decide_true,decide_false,Bool.and_false];rfl
   .simp[c1]
 | none=>
  cases hd:adh (qa ⟨b,0⟩).1 (qa ⟨b,0⟩).2 []with
  | none=>rfl
  | some r=>
   by_cases c:(qa ⟨b,0⟩).2.err=0
   .obtain⟨_,t,h⟩:=ape (acc:=[]) hd c
    rw[hk]at h;cases h
   .have:=aqA hd c
    simp[this]
theorem anl{l:List (Str×Int)}(hs:l.Pairwise fun x y=>wh x y<0):zI l=l:=by
 have tr:∀ a b c:Str×Int,(!decide (wh b a<0))=true->(!decide (wh c b<0))=true->(!decide (wh c a<0))=true:=fun a b c h1 h2=>by
  simp only[Bool.not_eq_true',nC]at*
  exact ag3 h2 h1
 have tot:∀ a b:Str×Int,((!decide (wh b a<0)) || (!decide (wh a b<0)))=true:=fun a b=>by
  rw[Bool.or_eq_true,Bool.not_eq_true',Bool.not_eq_true',nC,nC]
  by_cases c:wh b a<0
  .exact .inr fun d=>pU _ (pT c d)
  .exact .inl c
 refine List.Perm.eq_of_pairwise (le:=fun a b=>(!decide (wh b a<0))=true) (fun a b _ _ h1 h2=>?_) (List.pairwise_mergeSort tr tot l) (hs.imp fun{a b} h=>?_) (List.mergeSort_perm _ _)
 .simp only[Bool.not_eq_true',nC]at h1 h2
  rcases ajM a b with c | c | c
  .exact mC c h2
  .exact c
  .exact mC c h1
 .simp only[Bool.not_eq_true',nC]
  exact fun d=>pU _ (pT h d)
abbrev Evs:=List (Int×Int×Str)
def ai6(k:Str×Int)(e:Int×Str):Prop:=e.1<1\/4<e.1\/wQ k (e.2,if e.1=4 then 2 else 1)≠0
instance (k:Str×Int) (e:Int×Str):Decidable (ai6 k e):=by unfold ai6;infer_instance
def zu(r:Rd):(Int×Str)×Rd:=((((qa r).1:Int),(rblob (qa r).2).1),(rblob (qa r).2).2)
def aaZ(k:Str×Int):Nat->Rd->Int->Evs->Option (Evs×Rd)
 | 0,r,_,acc=>some (acc,r)
 | n+1,r,last,acc=>if ai6 k (zu r).1 then none else aaZ k n (zu r).2 (last+1) (acc++[(last+1,(zu r).1.1,(zu r).1.2)])
def aa0(k:Str×Int):Nat->Rd->xq->List xq->Option (List xq×Rd)
 | 0,r,_,acc=>some (acc,r)
 | n+1,r,before,acc=>if wQ k ((zu r).1.2,(zu r).1.1)≠0\/¬ wh before ((zu r).1.2,(zu r).1.1)<0 then none else aa0 k n (zu r).2 ((zu r).1.2,(zu r).1.1) (acc++[((zu r).1.2,(zu r).1.1)])
def acs(k:Str×Int)(r:Rd):Option (xG×Rd):=
 let a1:=qa r
 let a2:=qa a1.2
 if a2.1<a1.1\/32<a2.1 - a1.1 then none
 else match aaZ k (a2.1 - a1.1) a2.2 a1.1 []with
  | none=>none
  | some (es,r1)=>
   let a3:=qa r1
   match aa0 k (min a3.1 33) a3.2 ([],0) []with
   | none=>none
   | some (ms,r2)=>if r2.err≠0\/wQ k (47::k.1,1)≠0\/32<es.length+a3.1\/(a3.1=0/\a2.1=0)then none else some (⟨es,a1.1,a2.1,ms⟩,r2)
def wJ(r:Rd):(Str×Int)×Rd:=(((rblob r).1,((qa (rblob r).2).1:Int)),(qa (rblob r).2).2)
def aa1:Nat->Rd->Str×Int->Hub->Option (Hub×Rd)
 | 0,r,_,acc=>some (acc,r)
 | n+1,r,last,acc=>match acs (wJ r).1 (wJ r).2 with
  | none=>none
  | some (d,r')=>if¬wh last (wJ r).1<0 then none else aa1 n r' (wJ r).1 (acc++[((wJ r).1,d)])
def pf(b:Str):Option Hub:=match aa1 (qa ⟨b,0⟩).1 (qa ⟨b,0⟩).2 ([],0) []with
 | none=>none
 | some (h,r)=>if r.err≠0\/0<r.rest.length then none else some h
def afv(k:Str×Int):Nat->Rd->Option Rd
 | 0,r=>some r
 | n+1,r=>if(zu r).2.err≠0\/(zu r).1.1<1\/4<(zu r).1.1\/wQ k ((zu r).1.2,1)≠0 then none else afv k n (zu r).2
def agc(k:Str×Int):Nat->Rd->xq->Option Rd
 | 0,r,_=>some r
 | n+1,r,before=>if(zu r).2.err≠0\/wQ k ((zu r).1.2,(zu r).1.1)≠0\/¬ wh before ((zu r).1.2,(zu r).1.1)<0 then none else agc k n (zu r).2 ((zu r).1.2,(zu r).1.1)
def adj:Nat->Rd->Str×Int->Option Rd
 | 0,r,_=>some r
 | n+1,r,last=>
  let a1:=qa (wJ r).2
  let a2:=qa a1.2
  if a2.2.err≠0\/wQ (wJ r).1 (47::(wJ r).1.1,1)≠0\/¬ wh last (wJ r).1<0\/a2.1<a1.1\/32<a2.1 - a1.1 then none
  else match afv (wJ r).1 (a2.1 - a1.1) a2.2 with
   | none=>none
   | some r1=>
    let a3:=qa r1
    if a3.2.err≠0\/32<a3.1\/32<a2.1 - a1.1+a3.1\/(a3.1=0/\a2.1=0)then none
    else match agc (wJ r).1 a3.1 a3.2 ([],0)with
     | none=>none
     | some r2=>adj n r2 (wJ r).1
def aec(b:Str):Bool:=match adj (qa ⟨b,0⟩).1 (qa ⟨b,0⟩).2 ([],0)with
 | none=>false
 | some r=>decide (r.err=0) && decide (r.rest.length=0)
def adk(e:Int×Str):Str:=qO e.1.toNat++ue e.2
theorem aeQ(h:(zu r).2.err=0):r.err=0/\r.rest=adk (zu r).1++(zu r).2.rest/\qY (zu r).1.1=true/\(zu r).1.2.length<4611686018427387904:=by
 have h2:(rblob (qa r).2).2.err=0:=h
 have h1:=pO h2
 refine⟨wV h1,?_,vu _,(zB h2).1⟩
 unfold adk zu
 simp only[mr,mI]
 rw[<-(zB h2).2]
 exact(wo h1).2
theorem ajT(h:(wJ r).2.err=0):r.err=0/\r.rest=ue (wJ r).1.1++(qO (wJ r).1.2.toNat++(wJ r).2.rest)/\qY (wJ r).1.2=true/\(wJ r).1.1.length<4611686018427387904:=by
 have h2:(qa (rblob r).2).2.err=0:=h
 have h1:=wV h2
 refine⟨pO h1,?_,vu _,(zB h1).1⟩
 unfold wJ
 simp only[mr]
 rw[<-(wo h2).2]
 exact(zB h1).2
theorem aqB{e:Int×Int×Str}(h:qY e.2.1=true)(hl:e.2.2.length<4611686018427387904):aaX (a,false) e=(a++adk e.2,false):=by
 unfold aaX adk
 rw[wnum_yes h,uQ hl]
 simp only[mI]
theorem apf{m:xq}(h:qY m.2=true)(hl:m.1.length<4611686018427387904):abb (a,false) m=(a++adk (m.2,m.1),false):=by
 unfold abb adk
 rw[wnum_yes h,uQ hl]
 simp only[mI]
theorem ak5:∀ (l:Evs) {a:Str},(∀e∈l,qY e.2.1=true/\e.2.2.length<4611686018427387904)->l.foldl aaX (a,false)=(a++l.flatMap (fun e=>adk e.2),false)
 | [],a,_=>by simp
 | e::l,a,h=>by
  rw[nj,aqB (h e z7).1 (h e z7).2,ak5 l fun q hq=>h q (by simp[hq])]
  simp
theorem ajU:∀ (l:List xq) {a:Str},(∀m∈l,qY m.2=true/\m.1.length<4611686018427387904)->l.foldl abb (a,false)=(a++l.flatMap (fun m=>adk (m.2,m.1)),false)
 | [],a,_=>by simp
 | m::l,a,h=>by
  rw[nj,apf (h m z7).1 (h m z7).2,ajU l fun q hq=>h q (by simp[hq])]
  simp
theorem ajV{p:Str}{a b:Int}(ha:a=1\/a=2)(hb:b=1\/b=2)(h:wQ k (p,a)=0):wQ k (p,b)=0:=by
 unfold wQ at h⊢
 simp only at h⊢
 rw[mc z6]at h⊢
 exact h
theorem afw:∀ {n:Nat} {r:Rd} {last:Int} {acc l:Evs} {r':Rd},aaZ k n r last acc=some (l,r')->r'.err=0->r.err=0
 | 0,r,last,acc,l,r',h,e=>by cases h;exact e
 | n+1,r,last,acc,l,r',h,e=>by
  unfold aaZ at h
  split at h
  .cases h
  .exact(aeQ (afw h e)).1
theorem apg:∀ {n:Nat} {r:Rd} {last:Int} {acc l:Evs} {r':Rd},aaZ k n r last acc=some (l,r')->r'.err=0->afv k n r=some r'
 | 0,r,last,acc,l,r',h,e=>by cases h;rfl
 | n+1,r,last,acc,l,r',h,e=>by
  unfold aaZ at h
  split at h
  .cases h
  .rename_i c
   unfold ai6 at c
   rw[not_or,not_or,mE]at c
   unfold afv
   rw[mc]
   .exact apg h e
   .rintro(h' | h' | h' | h')
    .exact h' (afw h e)
    .exact c.1 h'
    .exact c.2.1 h'
    .exact h' (ajV (by split<;>simp) (.inl rfl) c.2.2)
theorem aph:∀ {n:Nat} {r:Rd} {last:Int} {acc:Evs} {r':Rd},afv k n r=some r'->r.err=0->r'.err=0/\∃ l,aaZ k n r last acc=some (l,r')
 | 0,r,last,acc,r',h,e=>by cases h;exact⟨e,acc,rfl⟩
 | n+1,r,last,acc,r',h,e=>by
  unfold afv at h
  split at h
  .cases h
  .rename_i c
   rw[not_or,not_or,not_or,mE,mE]at c
   obtain⟨k1,l,k2⟩:=aph (last:=last+1) (acc:=acc++[(last+1,(zu r).1.1,(zu r).1.2)]) h c.1
   refine⟨k1,l,?_⟩
   unfold aaZ
   rw[mc]
   .exact k2
   .rintro(h' | h' | h')
    .exact c.2.1 h'
    .exact c.2.2.1 h'
    .exact h' (ajV (.inl rfl) (by split<;>simp) c.2.2.2)
theorem ajW:∀ {n:Nat} {r:Rd} {last:Int} {acc l:Evs} {r':Rd},aaZ k n r last acc=some (l,r')->r'.err=0->∃ l',l=acc++l'/\l'.length=n/\r.rest=l'.flatMap (fun e=>adk e.2)++r'.rest/\∀ e∈l',qY e.2.1=true/\e.2.2.length<=128
 | 0,r,last,acc,l,r',h,e=>by
  cases h
  exact⟨[],z7,rfl,rfl,fun p h=>by cases h⟩
 | n+1,r,last,acc,l,r',h,e=>by
  unfold aaZ at h
  split at h
  .cases h
  .rename_i c
   unfold ai6 at c
   rw[not_or,not_or,mE]at c
   have e1:=afw h e
   obtain⟨_,s1,s2,s3⟩:=aeQ e1
   obtain⟨l',h1,h2,h3,h4⟩:=ajW h e
   have hm:=ai0 c.2.2
   refine⟨(last+1,(zu r).1.1,(zu r).1.2)::l',by rw[h1];simp,by simp[h2],?_,fun q hq=>?_⟩
   .rw[na,mI,<-h3];exact s1
   .rcases mD.1 hq with rfl | hq
    .exact⟨s2,hm⟩
    .exact h4 q hq
theorem afx:∀ {n:Nat} {r:Rd} {b:xq} {acc l:List xq} {r':Rd},aa0 k n r b acc=some (l,r')->r'.err=0->r.err=0
 | 0,r,b,acc,l,r',h,e=>by cases h;exact e
 | n+1,r,b,acc,l,r',h,e=>by
  unfold aa0 at h
  split at h
  .cases h
  .exact(aeQ (afx h e)).1
theorem api:∀ {n:Nat} {r:Rd} {b:xq} {acc l:List xq} {r':Rd},aa0 k n r b acc=some (l,r')->r'.err=0->agc k n r b=some r'
 | 0,r,b,acc,l,r',h,e=>by cases h;rfl
 | n+1,r,b,acc,l,r',h,e=>by
  unfold aa0 at h
  split at h
  .cases h
  .rename_i c
   rw[not_or]at c
   unfold agc
   rw[mc]
   .exact api h e
   .rintro(h' | h' | h')
    .exact h' (afx h e)
    .exact c.1 h'
    .exact c.2 h'
theorem apj:∀ {n:Nat} {r:Rd} {b:xq} {acc:List xq} {r':Rd},agc k n r b=some r'->r.err=0->r'.err=0/\∃ l,aa0 k n r b acc=some (l,r')
 | 0,r,b,acc,r',h,e=>by cases h;exact⟨e,acc,rfl⟩
 | n+1,r,b,acc,r',h,e=>by
  unfold agc at h
  split at h
  .cases h
  .rename_i c
   rw[not_or,not_or,mE]at c
   obtain⟨k1,l,k2⟩:=apj (acc:=acc++[((zu r).1.2,(zu r).1.1)]) h c.1
   refine⟨k1,l,?_⟩
   unfold aa0
   rw[mc (by rw[not_or];exact c.2)]
   exact k2
theorem apk:∀ {n:Nat} {r:Rd} {b:xq} {acc l:List xq} {r':Rd},aa0 k n r b acc=some (l,r')->r'.err=0->∃ l',l=acc++l'/\l'.length=n/\r.rest=l'.flatMap (fun m=>adk (m.2,m.1))++r'.rest/\(l'.Pairwise fun x y=>wh x y<0)/\∀ m∈l',wh b m<0/\qY m.2=true/\wQ k m=0
 | 0,r,b,acc,l,r',h,e=>by
  cases h
  exact⟨[],z7,rfl,rfl,z7,fun p h=>by cases h⟩
 | n+1,r,b,acc,l,r',h,e=>by
  unfold aa0 at h
  split at h
  .cases h
  .rename_i c
   rw[not_or,mE,mE]at c
   have e1:=afx h e
   obtain⟨_,s1,s2,s3⟩:=aeQ e1
   obtain⟨l',h1,h2,h3,h4,h5⟩:=apk h e
   refine⟨((zu r).1.2,(zu r).1.1)::l',by rw[h1];simp,by simp[h2],?_,?_,fun q hq=>?_⟩
   .rw[na,mI,<-h3];exact s1
   .rw[nT]
    exact⟨fun x hx=>(h5 x hx).1,h4⟩
   .rcases mD.1 hq with rfl | hq
    .exact⟨c.2,s2,c.1⟩
    .exact⟨pT c.2 (h5 q hq).1,(h5 q hq).2⟩
def act(p:(Str×Int)×xG):Str:=ue p.1.1++(qO p.1.2.toNat++(qO p.2.acked.toNat++(qO p.2.last.toNat++(p.2.events.flatMap (fun e=>adk e.2)++(qO p.2.marks.length++p.2.marks.flatMap (fun m=>adk (m.2,m.1)))))))
structure alK(k:Str×Int)(d:xG):Prop where
 name:qV k.1=true
 key:qY k.2=true
 acked:qY d.acked=true
 last:qY d.last=true
 room:d.events.length+d.marks.length<=32
 evs:∀ e∈d.events,qY e.2.1=true/\e.2.2.length<=128
 up:d.marks.Pairwise fun x y=>wh x y<0
 mks:∀ m∈d.marks,qY m.2=true/\wQ k m=0
theorem anm{d:xG}(hk:qY k.2=true)(e:acs k r=some (d,r')):r'.err=0/\r.err=0/\r.rest=qO d.acked.toNat++(qO d.last.toNat++(d.events.flatMap (fun e=>adk e.2)++(qO d.marks.length++d.marks.flatMap (fun m=>adk (m.2,m.1)))))++r'.rest/\alK k d:=by
 unfold acs at e
 simp only at e
 split at e
 .cases e
 rename_i c
 cases h1:aaZ k ((qa (qa r).2).1 - (qa r).1) (qa (qa r).2).2 (qa r).1 []with
 | none=>rw[h1]at e;cases e
 | some x=>
  obtain⟨es,r1⟩:=x
  rw[h1]at e
  simp only at e
  cases h2:aa0 k (min (qa r1).1 33) (qa r1).2 ([],0) []with
  | none=>rw[h2]at e;cases e
  | some x=>
   obtain⟨ms,r2⟩:=x
   rw[h2]at e
   simp only at e
   split at e
   .cases e
   rename_i c2
   cases e
   rw[not_or,not_or,not_or,mE,mE]at c2
   obtain⟨c3,c4,c5,c6⟩:=c2
   have z3:=afx h2 c3
   have z2:=wV z3
   have z1:=afw h1 z2
   have z0:=wV z1
   obtain⟨l1,a1,a2,a3,a4⟩:=ajW h1 z2
   obtain⟨l2,b1,b2,b3,b4,b5⟩:=apk h2 c3
   have a1:es=l1:=by simpa using a1
   have b1:ms=l2:=by simpa using b1
   subst a1
   subst b1
   have hm:ms.length=(qa r1).1:=by omega
   refine⟨c3,wV z0,?_,⟨(aiH c4).2.1,hk,vu _,vu _,by simp only;omega,a4,b4,fun m hm=>(b5 m hm).2⟩⟩
   simp only[mr,mI,hm]
   rw[<-b3,<-(wo z3).2,<-a3,<-(wo z1).2]
   exact(wo z0).2
structure ai7(b:Str×Int)(h:Hub):Prop where
 up:(h.map (·.1)).Pairwise fun x y=>wh x y<0
 lo:∀ p∈h,wh b p.1<0
 ok:∀ p∈h,alK p.1 p.2
theorem aqC:∀ {n:Nat} {r:Rd} {last:Str×Int} {acc t:Hub} {r':Rd},aa1 n r last acc=some (t,r')->r'.err=0->r.err=0
 | 0,r,last,acc,t,r',h,e=>by cases h;exact e
 | n+1,r,last,acc,t,r',h,e=>by
  unfold aa1 at h
  cases hk:acs (wJ r).1 (wJ r).2 with
  | none=>rw[hk]at h;cases h
  | some x=>obtain⟨hh,r2⟩:=x;exact(ajT (anm (vu _) hk).2.1).1
theorem apl:∀ {n:Nat} {r:Rd} {last:Str×Int} {acc t:Hub} {r':Rd},aa1 n r last acc=some (t,r')->r'.err=0->∃ t',t=acc++t'/\t'.length=n/\r.rest=t'.flatMap act++r'.rest/\ai7 last t'
 | 0,r,last,acc,t,r',h,e=>by
  cases h
  exact⟨[],z7,rfl,rfl,⟨z7,(fun p h=>by cases h),(fun p h=>by cases h)⟩⟩
 | n+1,r,last,acc,t,r',h,e=>by
  unfold aa1 at h
  cases hk:acs (wJ r).1 (wJ r).2 with
  | none=>rw[hk]at h;cases h
  | some x=>
   obtain⟨d,r2⟩:=x
   rw[hk]at h
   simp only at h
   split at h
   .cases h
   rename_i c
   rw[mE]at c
   obtain⟨k1,k2,k3,k4⟩:=anm (vu _) hk
   obtain⟨t',h1,h2,h3,h4⟩:=apl h e
   have s:=(ajT k2).2.1
   generalize (wJ r).1=p at*
   refine⟨(p,d)::t',by rw[h1];simp,by simp[h2],?_,⟨?_,fun q hq=>?_,fun q hq=>?_⟩⟩
   .rw[s,k3,h3,na]
    unfold act
    simp only[mI]
   .rw[nx,nT]
    refine⟨fun x hx=>?_,h4.up⟩
    obtain⟨q,hq,rfl⟩:=my.1 hx
    exact h4.lo q hq
   .rcases mD.1 hq with rfl | hq
    .exact c
    .exact pT c (h4.lo q hq)
   .rcases mD.1 hq with rfl | hq
    .exact k4
    .exact h4.ok q hq
theorem apm{p:(Str×Int)×xG}(g:alK p.1 p.2):aam (a,false) p=(a++act p,false):=by
 have hl:=adw g.name
 have hr:=g.room
 unfold aam abD pc act
 rw[anl g.up]
 simp only[nj,Lb]
 rw[uQ z6,wnum_yes g.key,wnum_yes g.acked,wnum_yes g.last,ak5 _ fun e he=>⟨(g.evs e he).1,by have:=(g.evs e he).2;omega⟩,
  wnum_yes (xH.2 z6),ajU _ fun m hm=>⟨(g.mks m hm).1,by have:=ai0 (g.mks m hm).2;omega⟩]
 simp only[mr,mI]
theorem ajX:∀ (t:Hub) {a:Str},(∀p∈t,alK p.1 p.2)->t.foldl aam (a,false)=(a++t.flatMap act,false)
 | [],a,_=>by simp
 | p::t,a,h=>by
  rw[nj,apm (h p z7),ajX t fun q hq=>h q (by simp[hq])]
  simp
theorem ai7.nd{b:Str×Int}{t:Hub}(g:ai7 b t):(t.map (·.1)).Nodup:=g.up.imp fun h e=>by rw[e]at h;exact pU _ h
theorem apn{b:Str×Int}{t:Hub}(g:ai7 b t)(hl:t.length<4611686018427387904):abE t=qO t.length++t.flatMap act:=by
 have e1:kH t=t.map (·.1):=anl g.up
 have e2:∀ y∈t,(y.1,ji t y.1)=y:=fun y hy=>by
  unfold ji
  rw[yn g.nd (k:=y.1) (a:=y.2) hy];try rfl
 unfold abE akw adT
 rw[e1,List.foldl_map,adi (g:=aam) _ _ fun a y hy=>by rw[e2 y hy],wnum_yes (xH.2 z6),ajX _ g.ok]
 simp[adg]
theorem aqD{t:Hub}(h:pf b=some t):abE t=b/\ai7 ([],0) t/\b=qO t.length++t.flatMap act:=by
 unfold pf at h
 cases hk:aa1 (qa ⟨b,0⟩).1 (qa ⟨b,0⟩).2 ([],0) []with
 | none=>rw[hk]at h;cases h
 | some x=>
  obtain⟨t2,r⟩:=x
  rw[hk]at h
  simp only at h
  split at h
  .cases h
  rename_i c
  cases h
  rw[not_or,mE]at c
  obtain⟨t',h1,h2,h3,h4⟩:=apl hk c.1
  have h1:t=t':=by simpa using h1
  subst h1
  have e0:=wo (aqC hk c.1)
  have hr:r.rest=[]:=mG z6
  rw[hr,nN]at h3
  have e1:b=qO t.length++t.flatMap act:=by rw[<-h3,h2];exact e0.2
  have lt:=km ⟨b,0⟩
  exact⟨by rw[apn h4 z6];exact e1.symm,h4,e1⟩
theorem apo:∀ {n:Nat} {r:Rd} {last:Str×Int} {acc t:Hub} {r':Rd},aa1 n r last acc=some (t,r')->adj n r last=some r'
 | 0,r,last,acc,t,r',h=>by cases h;rfl
 | n+1,r,last,acc,t,r',h=>by
  unfold aa1 at h
  cases hk:acs (wJ r).1 (wJ r).2 with
  | none=>rw[hk]at h;cases h
  | some x=>
   obtain⟨d,r2⟩:=x
   rw[hk]at h
   simp only at h
   split at h
   .cases h
   rename_i c
   rw[mE]at c
   have ih:=apo h
   unfold acs at hk
   simp only at hk
   split at hk
   .cases hk
   rename_i c1
   cases h1:aaZ (wJ r).1 ((qa (qa (wJ r).2).2).1 - (qa (wJ r).2).1) (qa (qa (wJ r).2).2).2 (qa (wJ r).2).1 []with
   | none=>rw[h1]at hk;cases hk
   | some x=>
    obtain⟨es,r3⟩:=x
    rw[h1]at hk
    simp only at hk
    cases h2:aa0 (wJ r).1 (min (qa r3).1 33) (qa r3).2 ([],0) []with
    | none=>rw[h2]at hk;cases hk
    | some x=>
     obtain⟨ms,r4⟩:=x
     rw[h2]at hk
     simp only at hk
     split at hk
     .cases hk
     rename_i c2
     cases hk
     rw[not_or,not_or,not_or,mE,mE]at c2
     obtain⟨c3,c4,c5,c6⟩:=c2
     have z3:=afx h2 c3
     have z2:=wV z3
     have z1:=afw h1 z2
     obtain⟨l1,a1,a2,_⟩:=ajW h1 z2
     have a1:es=l1:=by simpa using a1
     subst a1
     unfold adj
     simp only
     rw[mc,apg h1 z2]
     .simp only
      rw[mc]
      .have:=api h2 c3
       rw[Ll z6]at this
       rw[this]
       exact ih
      .rintro(h' | h' | h' | h')
       .exact h' z3
       .omega
       .omega
       .exact c6 h'
     .rintro(h' | h' | h' | h')
      .exact h' z1
      .exact h' c4
      .exact h' c
      .exact c1 h'
theorem apq:∀ {n:Nat} {r:Rd} {last:Str×Int} {acc:Hub} {r':Rd},adj n r last=some r'->r.err=0->r'.err=0/\∃ t,aa1 n r last acc=some (t,r')
 | 0,r,last,acc,r',h,e=>by cases h;exact⟨e,acc,rfl⟩
 | n+1,r,last,acc,r',h,e=>by
  unfold adj at h
  simp only at h
  split at h
  .cases h
  rename_i c
  rw[not_or,not_or,not_or,mE,mE,mE]at c
  obtain⟨c1,c2,c3,c4⟩:=c
  cases h1:afv (wJ r).1 ((qa (qa (wJ r).2).2).1 - (qa (wJ r).2).1) (qa (qa (wJ r).2).2).2 with
  | none=>rw[h1]at h;cases h
  | some r1=>
   rw[h1]at h
   simp only at h
   split at h
   .cases h
   rename_i d
   rw[not_or,not_or,not_or,mE]at d
   obtain⟨d1,d2,d3,d4⟩:=d
   cases h2:agc (wJ r).1 (qa r1).1 (qa r1).2 ([],0)with
   | none=>rw[h2]at h;cases h
   | some r2=>
    rw[h2]at h
    simp only at h
    obtain⟨k1,es,k2⟩:=aph (last:=(qa (wJ r).2).1) (acc:=[]) h1 c1
    obtain⟨m1,ms,m2⟩:=apj (acc:=[]) h2 d1
    obtain⟨l1,a1,a2,_⟩:=ajW k2 k1
    have a1:es=l1:=by simpa using a1
    subst a1
    obtain⟨n1,t,n2⟩:=apq (acc:=acc++[((wJ r).1,⟨es,((qa (wJ r).2).1:Nat),((qa (qa (wJ r).2).2).1:Nat),ms⟩)]) h m1
    refine⟨n1,t,?_⟩
    have hh:acs (wJ r).1 (wJ r).2=some (⟨es,((qa (wJ r).2).1:Nat),((qa (qa (wJ r).2).2).1:Nat),ms⟩,r2):=by
     unfold acs
     simp only
     rw[mc c4,k2]
     simp only
     rw[Ll z6,m2]
     simp only
     rw[mc]
     rintro(h' | h' | h' | h')
     .exact h' m1
     .exact h' c2
     .omega
     .exact d4 h'
    unfold aa1
    rw[hh]
    simp only
    rw[mc (by rw[mE];exact c3)]
    exact n2
theorem aqE:∀ {n:Nat} {r:Rd} {last:Str×Int} {r':Rd},adj n r last=some r'->r.err≠0->r'.err≠0
 | 0,r,last,r',h,e=>by cases h;exact e
 | n+1,r,last,r',h,e=>by
  unfold adj at h
  simp only at h
  have hk:(wJ r).2=r:=by unfold wJ;simp only;rw[ahQ e,aah (r:=r) e]
  rw[me (.inl (by rw[hk,aah (r:=r) e,aah (r:=r) e];exact e))]at h
  cases h
theorem aog(b:Str):aec b=(pf b).isSome:=by
 unfold aec pf
 cases hk:aa1 (qa ⟨b,0⟩).1 (qa ⟨b,0⟩).2 ([],0) []with
 | some x=>
  obtain⟨t,r⟩:=x
  rw[apo hk]
  simp only
  by_cases c:r.err=0/\r.rest.length=0
  .rw[mc z6];simp[c.1,c.2]
  .rw[me z6]
   by_cases c1:r.err=0
   .have:¬ r.rest.length=0:=fun h=>c ⟨c1,h⟩
    simp only[c1,this,decide_true,decide_false,Bool.and_false];rfl
   .simp[c1]
 | none=>
  cases hd:adj (qa ⟨b,0⟩).1 (qa ⟨b,0⟩).2 ([],0)with
  | none=>rfl
  | some r=>
   by_cases c:(qa ⟨b,0⟩).2.err=0
   .obtain⟨_,t,h⟩:=apq (acc:=[]) hd c
    rw[hk]at h;cases h
   .have:=aqE hd c
    simp[this]
end Zt
namespace Zt
open Go SL G Pa Wi
variable{B:World}[Zd B]{ro I I':AH}{tag tag':Nat->Nat}
variable{T X q:Nat}{rd:Rd}{s:Sl}{Q:Sl->Int->Int->Int->Int->Int->AH->Prop}{st:St}{k l m:Str}
theorem aoh{tag1:Nat->Nat}{I1:AH}(st:∀ R,qd R ro (fun _=>7) I tag1 I1)(tag:Nat->Nat)(q:Nat):
  ∃tag',(∀R,qd R ro tag I tag' I1)/\∀ e s l,Row tag1 I1 6 e s l->Row tag' I1 q e s l:=by
 refine⟨fun c=>if(I c).isSome then tag c else q,fun R=>⟨fun b o hb _=>⟨by simp[hb],((st []).keep b o hb z7).2⟩,fun b o hb=>⟨by simp[hb],o,((st []).keep b o hb z7).2⟩,(st []).sep⟩,fun e s l h=>?_⟩
 rcases h with h | ⟨b,cs,ha,ht,hb,hx'⟩
 .exact .inl h
 .refine .inr ⟨b,cs,ha,?_,hb,hx'⟩
  cases e:I b with
  | none=>simp[e]
  | some o=>
   have:=((st []).old b o e).1
   rw[ht]at this;cases this
theorem apr(q:Nat){l:List Value}{Q:Sl->AH->Prop}(h:SL.qU ro I s l)(hs:SL.Sep ro I)(hl:l.length<=140737488355328)(hv:∀ v∈l,qk v=true)(hQ:∀ s' tag' I',(∀R,qd R ro tag I tag' I')->Row tag' I' q 5 s' l->Q s' I'):xY B ro s I Q:=
 clone_ok (tag:=fun _=>7) h hs hl hv fun s' tag1 I1 st r=>by
  obtain⟨tg,k1,k2⟩:=aoh st tag q
  exact hQ s' tg I1 k1 (k2 _ _ _ r)
theorem arF(q:Nat)(hq0:q≠0){r M:Nat}{bs:List Nat}{p:ByteArray}(g:xC ro)(hr:r<64)(hr6:r≠6)(hr0:r≠0)(h:zo tag I r T M bs st)(hdl:∀ p n,st.lookup p=some n->n.data.length<=256)
  (hbad:parts (L p)=none->∀ tag' I',vf 0 ro tag I tag' I'->Q ⟨none,0,0⟩ 0 0 0 0 20 I') (hmiss:∀ ps,parts (L p)=some ps->st.lookup (L p)=none->∀ tag' I',vf 0 ro tag I tag' I'->Q ⟨none,0,0⟩ 0 0 0 0 70 I')
  (hhit:∀ n,st.lookup (L p)=some n->∀ s tag' I',vf 0 ro tag I tag' I'->Row tag' I' q 5 s (n.data.map vU)->Q s n.ver n.ctr n.own n.kids 0 I'):jk B ro (some ⟨T,0,none⟩) p I Q:=by
 refine aeG fun hs=>?_
 unfold aae
 refine qr (tag:=tag) 0 hs fun x tag1 I1 st1 r1=>?_
 have hA:=h.keep (st1 [])
 have hs1:=(st1 []).sep
 have err:∀ e:Int,(∀tag' I',vf 0 ro tag I tag' I'->Q ⟨none,0,0⟩ 0 0 0 0 e I')->stN ⟨x,0,none⟩ (fun I=> ∃(x5_4a:Int) (x5_4b:Int) (x5_4c:Int) (x5_4d:Int),qB ro I ⟨x,0,none⟩ 0 [.int .i64 x5_4a,.int .i64 x5_4b,.int .i64 x5_4c,.int .i64 x5_4d]/\Q (⟨none,0,0⟩:Sl) x5_4a x5_4b x5_4c x5_4d e I) [.int .i64 0,.int .i64 0,.int .i64 0,.int .i64 0] 0 I1:=by
  intro e he
  refine r1.stAll hs1 rfl (by simp[qk]) fun I2 st2 r2=>?_
  obtain⟨qq,hqq,hg⟩:=r2.ptr st2.sep z7
  cases hqq
  exact⟨0,0,0,0,wN 0 fun j v hj=>by have:=hg j v hj;rwa [mX,<-mp j]at this,he tag1 I2 (((st1 []).c z7).trans (st2.c z7))⟩
 refine am3 g hA hs1 (fun hb=>?_) (fun ps hps hl=>?_) (fun ps i b n hps hb hp hl=>?_)
 .rw[me z8]
  exact err 20 (hbad hb)
 .rw[me z8]
  exact err 70 (hmiss ps hps hl)
 .rw[mc z8]
  obtain⟨ds,hn,hd⟩:=hA.nodes i b _ hb hp
  obtain⟨ht0,hto⟩:=hn.tagOf
  refine aeL b ?_
  have hs2:SL.Sep (join ro (SL.one I1 b)) (SL.del I1 b):=hs1.lent
  refine⟨_,rfl,_,rfl,n.ver,n.ctr,n.own,n.kids,wN 0 fun j v hj=>?_,ds,hn.lend hs1 (i:=4) rfl,?_⟩
  .rw[mp,<-mX j]
   have hj4:j<4:=by
    rcases mB j 4 with h' | h'
    .exact h'
    .rw[mw (j1 h')]at hj;cases hj
   refine hn.lend hs1 (i:=j) ?_
   rw[<-hj]
   rcases j with _ | _ | _ | _ | j
   .rfl
   .rfl
   .rfl
   .rfl
   .omega
  .have hd1:=hd.del (b:=b) ht0 z6
   have hx1:=r1.del (b:=b) ht0 z6
   refine apr q (tag:=tag1) (hd1.read hs2) hs2 ?_ (by simp[qk]) fun s' tag2 I2 st2 r2=>?_
   .have:=hdl _ _ hl;simp;omega
   .have hx2:=hx1.keep (st2 [])
    refine hx2.stAll (st2 []).sep rfl (by simp[qk]) fun I3 st3 r3=>?_
    intro hdj
    have stB:=((st2 [0]).trans st3).back hs1 hdj hto
    have r4:=r3.back (r':=tag1 b) hdj hto
    have r5:=(r2.keep st3 (j1 hq0)).back (r':=tag1 b) hdj hto
    obtain⟨qq,hqq,hg⟩:=r4.ptr stB.sep z7
    cases hqq
    refine⟨n.ver,n.ctr,n.own,n.kids,wN 0 fun j v hj=>by have:=hg j v hj;rwa [mX,<-mp j]at this,?_⟩
    exact hhit n hl s' _ _ (((st1 []).c z7).trans (stB.c z7)) r5
structure Ans where
 data:Str
 ver:Int
 ctr:Int
 own:Int
 kids:Int
 err:Int
def uq(st:St)(k:Str):Ans:=match parts k with
 | none=>⟨[],0,0,0,0,20⟩
 | some _=>match st.lookup k with
  | none=>⟨[],0,0,0,0,70⟩
  | some n=>⟨n.data,n.ver,n.ctr,n.own,n.kids,0⟩
theorem arG(q:Nat)(hq0:q≠0)(g:xC ro)(hT:vJ tag I 10 T st)(hi:Inv st)
  (hQ:∀ s tag' I',qi [0] ro tag I tag' I'->Row tag' I' q 5 s ((uq st k).data.map vU)->Q s (uq st k).ver (uq st k).ctr (uq st k).own (uq st k).kids (uq st k).err I'):jk B ro (some ⟨T,0,none⟩) (S k) I Q:=by
 obtain⟨M,bs,hA⟩:=hT
 refine arF q hq0 g z8 z8 z8 hA hi.data (fun hb tag1 I1 st1=>?_) (fun ps hps hn tag1 I1 st1=>?_) fun n hn s tag1 I1 st1 r1=>?_
 .rw[L_S]at hb
  have e:uq st k=⟨[],0,0,0,0,20⟩:=by unfold uq;rw[hb]
  rw[e]at hQ
  exact hQ _ tag1 I1 (st1.s z7) (Row.nil _ _)
 .rw[L_S]at hps hn
  have e:uq st k=⟨[],0,0,0,0,70⟩:=by unfold uq;rw[hps,hn]
  rw[e]at hQ
  exact hQ _ tag1 I1 (st1.s z7) (Row.nil _ _)
 .rw[L_S]at hn
  obtain⟨ps,hps⟩:=hi.path _ _ hn
  have e:uq st k=⟨n.data,n.ver,n.ctr,n.own,n.kids,0⟩:=by unfold uq;rw[hps,hn]
  rw[e]at hQ
  exact hQ _ tag1 I1 (st1.s z7) r1
theorem arH{k:Nat}{c:UInt8}(hk:m[k]?=some c)(hc:c.toNat<128):val (m.take (k+1))=val (m.take k)+128 ^ k*c.toNat:=by
 have hkl:k<m.length:=by
  rcases mB k m.length with h | h
  .exact h
  .rw[mw h]at hk;cases hk
 rw[np,hk]
 simp only[Option.toList_some]
 rw[aiY,nU,Ll z6,Lf hc]
theorem aoi{p:Nat}{Q:Int->Int->Int->AH->Prop}(h:SL.qU ro I s (l.map vU))(hl:l.length<=140737488355328)(hp:p<=l.length)
  (hQ:Q (num (l.drop p)).1 (if(num (l.drop p)).2.2=0 then((p+(num (l.drop p)).2.1:Nat):Int)else 0) (num (l.drop p)).2.2 I):adu B ro s (p:Int) I Q:=by
 refine ajE fun _=>?_
 unfold adz
 have hln:s.len=l.length:=by rw[h.1,ml]
 rw[mc z6]
 obtain⟨m,hm⟩:∃ m,l.drop p=m:=⟨_,rfl⟩
 have hml:m.length+p=l.length:=by rw[<-hm,Lg];omega
 rw[hm]at hQ
 have cell:∀ i (hi:i<m.length),∃q:Addr,s.a=some q/\qb ro I (q.add (Int.toNat (i64.wrap ((p:Int)+(i:Int)))*1))=some (.int .u8 (m[i].toNat:Int))/\i64.wrap ((p:Int)+(i:Int))=((p+i:Nat):Int):=fun i hi=>by
  obtain⟨q,hq⟩:∃ q,s.a=some q:=by
   cases e:s.a with
   | none=>
    have:=h.2.1 e
    rw[List.map_eq_nil_iff]at this
    rw[this,mZ]at hml;omega
   | some q=>exact⟨q,rfl⟩
  have e:i64.wrap ((p:Int)+(i:Int))=((p+i:Nat):Int):=by rw[SL.qM z6 z6];omega
  refine⟨q,hq,?_,e⟩
  rw[e,mr,mX]
  refine h.2.2 q hq (p+i) _ ?_
  have:l[p+i]?=some m[i]:=by rw[<-LM,hm];exact mh hi
  rw[mq,this];try rfl
 have value:∀ (k:Nat) (hk:k<m.length),(∀i c,i<k->m[i]?=some c->128<=c.toNat)->k<=8->val (m.take (k+1))<4611686018427387904->num m=(val (m.take (k+1)),k+1,0)->
   lfpD (jQ B ro s (p:Int) (k:Int) Q) ((0:Int),(k:Int)) I:=by
  intro k hk hhi hk8 hv en
  rw[en]at hQ
  simp only[if_true]at hQ
  suffices∀(i:Nat) (v:Nat),i<=k+1->val (m.take (k+1))=val (m.take i)+128 ^ i*v->lfpD (jQ B ro s (p:Int) (k:Int) Q) ((v:Int),(i:Int) - 1) I by
   have h0:=this (k+1) 0 z6 (by rw[Nat.mul_zero];try rfl)
   rw[show(((k+1:Nat):Int) - 1)=(k:Int) by omega]at h0
   exact h0
  intro i
  induction i with
  | zero=>
   intro v hi he
   refine lfpD.intro ?_
   unfold jQ
   simp only
   rw[mc z6]
   unfold aa9
   have e1:val (m.take 0)=0:=rfl
   rw[e1,Nat.pow_zero,Nat.one_mul,mp]at he
   rw[he]at hQ
   rw[show i64.wrap ((i64.wrap ((p:Int)+(k:Int)))+1)=((p+(k+1):Nat):Int) by rw[SL.qM (n:=(p:Int)+(k:Int)) z6 z6,SL.qM z6 z6];omega]
   exact hQ
  | succ i ih=>
   intro v hi he
   have him:i<m.length:=by omega
   obtain⟨q,hq,hcell,ew⟩:=cell i him
   have hp0:0<128 ^ i:=Nat.pow_pos z8
   have ets:val (m.take (i+1))=val (m.take i)+128 ^ i*(m[i].toNat%128):=by
    rw[np,mh him]
    simp only[Option.toList_some]
    rw[aiY,nU,Ll z6]
   have he2:val (m.take (k+1))=val (m.take i)+128 ^ i*(v*128+m[i].toNat%128):=by
    rw[he,ets,Nat.pow_succ,Nat.mul_add,Nat.add_assoc,Nat.add_comm (128 ^ i*(v*128)),Nat.mul_assoc,Lk 128 v]
   have hvb:v*128+m[i].toNat%128<=val (m.take (k+1)):=by
    rw[he2]
    have:=Nat.le_mul_of_pos_left (v*128+m[i].toNat%128) hp0
    omega
   refine lfpD.intro ?_
   unfold jQ
   simp only
   rw[me z6]
   rw[show(((i+1:Nat):Int) - 1)=(i:Int) by omega]
   refine⟨q,hq,by rw[ew];omega,by rw[ew];omega,(m[i].toNat:Int),hcell,?_⟩
   have hlt:=an5 m[i]
   have e1:i64.wrap ((i64.wrap ((v:Int)*128))+(Int.tmod (i64.wrap (m[i].toNat:Int)) 128))=((v*128+m[i].toNat%128:Nat):Int):=by
    rw[SL.qM (n:=(v:Int)*128) z6 z6,SL.qM (n:=(m[i].toNat:Int)) z6 z6,Int.tmod_eq_emod_of_nonneg z6,SL.qM z6 z6]
    omega
   rw[e1,show i64.wrap ((i:Int) - 1)=(i:Int) - 1 by rw[SL.qM z6 z6]]
   exact ih _ z6 he2
 have after:∀ x7:Int,(x7= -1/\uD 9 m=none)\/(∃k:Nat,x7=k/\uD 9 m=some k)->pP B ro s (p:Int) Q x7 I:=by
  intro x7 hx
  have ew:i64.wrap ((s.len:Int) - (p:Int))=(m.length:Int):=by rw[SL.qM z6 z6];omega
  unfold pP
  rw[ew]
  rcases hx with⟨rfl,hsc⟩ | ⟨k,rfl,hsc⟩
  .have en:num m=(0,0,if m.length<9 then 12 else 13):=by unfold num;rw[hsc]
   rw[en]at hQ
   by_cases c:m.length<9
   .rw[me z6]
    rw[me c]at hQ;exact hQ
   .rw[mc z6,me z8]
    unfold kp
    rw[me rfl]
    unfold vt
    rw[me rfl]
    rw[mc c]at hQ;exact hQ
  .obtain⟨k9,hkm,hhi,c,hck,hc128⟩:=afP 9 m k hsc
   rw[mc z6,mc z6]
   have bad:(0<k/\m[k]?=some 0)\/4611686018427387904<=val (m.take (k+1))->Q 0 0 13 I:=fun hb=>by
    have en:num m=(0,0,13):=by unfold num;rw[hsc];simp only;rw[me hb]
    rw[en]at hQ;exact hQ
   have good:¬ ((0<k/\m[k]?=some 0)\/4611686018427387904<=val (m.take (k+1)))->vt B ro s (p:Int) (k:Int) Q false I:=fun hb=>by
    have en:num m=(val (m.take (k+1)),k+1,0):=by unfold num;rw[hsc];simp only;rw[mc hb]
    unfold vt
    rw[mc z7]
    exact value k hkm hhi z6 z6 en
   have hmk:m[k]=c:=by rw[mh hkm]at hck;exact mQ hck
   have hvt:=agS m k
   have hvc:=arH hck hc128
   have second:(¬(0<k/\m[k]?=some 0))->kp B ro s (p:Int) (k:Int) Q false I:=fun hz=>by
    unfold kp
    rw[mc z7]
    by_cases c8:k=8
    .subst c8
     rw[me (by rfl)]
     obtain⟨q,hq,hcell,ew⟩:=cell 8 hkm
     rw[show((8:Nat):Int)=8 from rfl]at hcell ew
     refine⟨q,hq,by rw[ew];omega,by rw[ew];omega,(m[8].toNat:Int),hcell,?_⟩
     unfold jn
     rw[hmk]
     have e8:(128:Nat) ^ 8=72057594037927936:=by decide
     rw[e8]at hvt hvc
     by_cases c63:63<c.toNat
     .rw[mF z6]
      unfold vt
      rw[me rfl]
      exact bad (.inr z6)
     .rw[mL z6]
      exact good (by rintro(h | h);exact hz h;omega)
    .rw[mc z6]
     unfold jn
     refine good ?_
     rintro(h | h)
     .exact hz h
     .have:(128:Nat) ^ (k+1)<=128 ^ 8:=Nat.pow_le_pow_right z8 z6
      have hv:=agS m (k+1)
      have e8:(128:Nat) ^ 8=72057594037927936:=by decide
      omega
   by_cases c0:0<k
   .rw[me z6]
    obtain⟨q,hq,hcell,ew⟩:=cell k hkm
    refine⟨q,hq,by rw[ew];omega,by rw[ew];omega,(m[k].toNat:Int),hcell,?_⟩
    unfold jo
    by_cases cz:c.toNat=0
    .rw[mF (by rw[hmk];omega)]
     unfold kp
     rw[me rfl]
     unfold vt
     rw[me rfl]
     exact bad (.inl ⟨c0,by rw[hck,show c=0 from alJ (j1 cz)]⟩)
    .rw[mL (by rw[hmk];omega)]
     refine second ?_
     rintro⟨_,hz⟩
     rw[hck]at hz
     exact cz (by rw[mQ hz];try rfl)
   .rw[mc z6]
    unfold jo
    exact second fun h=>c0 h.1
 suffices∀d i,i+d=9->i<=m.length->(∀j c,j<i->m[j]?=some c->128<=c.toNat)->lfpD (yX B ro s (p:Int) Q) ((-1:Int),(i:Int)) I from
  this 9 0 rfl (Nat.zero_le _) fun j c h=>mC h (Nat.not_lt_zero _)
 intro d
 induction d with
 | zero=>
  intro i hi him hall
  refine lfpD.intro ?_
  unfold yX
  simp only
  rw[mc z6]
  exact after _ (.inl ⟨rfl,ac9 9 m fun j c hj hc=>hall j c z6 hc⟩)
 | succ d ih=>
  intro i hi him hall
  have ew:i64.wrap ((p:Int)+(i:Int))=((p+i:Nat):Int):=by rw[SL.qM z6 z6];omega
  refine lfpD.intro ?_
  unfold yX
  simp only
  by_cases c:i<m.length
  .rw[me ⟨⟨z6,by rw[ew];omega⟩,z8⟩]
   obtain⟨q,hq,hcell,_⟩:=cell i c
   refine⟨q,hq,by rw[ew];omega,by rw[ew];omega,(m[i].toNat:Int),hcell,?_⟩
   by_cases c1:m[i].toNat<128
   .rw[me z6]
    unfold jp
    rw[Pa.inc i z6]
    refine lfpD.intro ?_
    simp only
    rw[mc z6]
    exact after _ (.inr ⟨i,rfl,am5 9 m i m[i] z6 hall (mh c) c1⟩)
   .rw[mc z6]
    unfold jp
    rw[Pa.inc i z6]
    refine ih (i+1) z6 z6 fun j x hj hx=>?_
    rcases mB j i with h | h
    .exact hall j x h hx
    .obtain rfl:j=i:=by omega
     rw[mh c]at hx
     cases hx;omega
  .rw[mc (by rw[ew];omega)]
   refine after _ (.inl ⟨rfl,ac9 9 m fun j x hj hx=>?_⟩)
   have hjl:j<m.length:=by
    rcases mB j m.length with h | h
    .exact h
    .rw[mw h]at hx;cases hx
   exact hall j x z6 hx
def vq(tag:Nat->Nat)(I:AH)(q X:Nat)(s:Sl)(l:Str)(rd:Rd):Prop:= ∃p:Nat,p<=l.length/\rd.rest=l.drop p/\Row tag I q 147 ⟨some ⟨X,0,none⟩,3,3⟩ [Sl.v s,.int .i64 (p:Int),.int .i64 rd.err]
theorem rdnum_ok{Q:Int->AH->Prop}(h:vq tag I q X s l rd)(hr:SL.qU ro (fun _=>none) s (l.map vU))(hl:l.length<=140737488355328)
  (hQ:∀ I',qd [q] ro tag I tag I'->vq tag I' q X s l (qa rd).2->Q ((qa rd).1:Nat) I'):qm B ro (some ⟨X,0,none⟩) I Q:=by
 refine aho fun hs=>?_
 unfold abv
 obtain⟨p,hp,hrest,r⟩:=id h
 obtain⟨pp,hpp,hg⟩:=r.ptr hs z7
 cases hpp
 refine⟨_,rfl,_,hg 2 _ rfl,?_⟩
 by_cases c:rd.err=0
 .rw[mc (j1 c)]
  refine⟨_,rfl,_,rfl,s,hg 0 _ rfl,_,hg 1 _ rfl,?_⟩
  refine aoi hr.keep hl hp ?_
  have e:qa rd=((num (l.drop p)).1,⟨(l.drop p).drop (num (l.drop p)).2.1,(num (l.drop p)).2.2⟩):=by
   unfold qa;rw[mc (j1 c),hrest]
  rw[e]at hQ
  have hle:=(ajD (l.drop p)).1
  rw[Lg]at hle
  by_cases c2:(num (l.drop p)).2.2=0
  .rw[me c2,mc (j1 c2)]
   refine⟨_,rfl,?_⟩
   refine r.st (i:=1) hs rfl z7 rfl fun I2 st2 r2=>?_
   refine hQ I2 st2 ⟨p+(num (l.drop p)).2.1,z6,by rw[List.drop_drop],?_⟩
   simp only[c2]
   rw[c]at r2;exact r2
  .obtain⟨e1,e2,_⟩:=am7 c2
   rw[mc c2,me c2]
   refine⟨_,rfl,?_⟩
   refine r.st (i:=2) hs rfl z7 rfl fun I2 st2 r2=>?_
   rw[e1]at hQ
   exact hQ I2 st2 ⟨p,hp,by rw[e2];try rfl,r2⟩
 .rw[me c]
  rw[aah c]at hQ
  exact hQ I (qd.refl hs) h
theorem aed{Q:Int->AH->Prop}(h:vq tag I q X s l rd)(hr:SL.qU ro (fun _=>none) s (l.map vU))(hl:l.length<=140737488355328)
  (hQ:Q (rd.rest.length:Nat) I):vp B ro (some ⟨X,0,none⟩) I Q:=by
 refine agV fun hs=>?_
 unfold aaT
 obtain⟨p,hp,hrest,r⟩:=id h
 obtain⟨pp,hpp,hg⟩:=r.ptr hs z7
 cases hpp
 have hln:s.len=l.length:=by rw[hr.1,ml]
 refine⟨_,rfl,_,rfl,s,hg 0 _ rfl,_,hg 1 _ rfl,?_⟩
 rw[SL.qM z6 z6]
 rw[hrest,Lg]at hQ
 rw[show((s.len:Int) - (p:Int))=((l.length - p:Nat):Int) by omega]
 exact hQ
end Zt
namespace SL
open Go
variable{ro I I':AH}{tag tag':Nat->Nat}
theorem aqF(a:Addr)(p i:Nat):(a.add p).add i=a.add (p+i):=by
 unfold Addr.add
 by_cases hp:p=0
 .subst hp;simp
 .by_cases hi:i=0
  .subst hi;simp[hp]
  .simp[hp,hi,Nat.add_assoc]
theorem qU.cut{s:Sl}{l:List Value}{p n:Nat}(h:qU ro I s l)(hc:s.len<=s.cap)(hn:p+n<=l.length):qU ro I ⟨wH s.a p s.cap 1,p+n - p,s.cap - p⟩ ((l.drop p).take n):=by
 have hl:=h.1
 refine⟨y6,fun ha=>?_,fun a ha i v hv=>?_⟩
 .unfold wH at ha
  split at ha
  .rename_i e
   have:n=0:=by omega
   subst this;simp
  .cases hs:s.a with
   | none=>rw[h.2.1 hs]at hn ⊢;simp
   | some x=>rw[hs]at ha;simp at ha
 .rw[La]at hv
  split at hv
  .rename_i hin
   rw[LM]at hv
   unfold wH at ha
   split at ha
   .omega
   .cases hs:s.a with
    | none=>rw[hs]at ha;cases ha
    | some x=>
     rw[hs]at ha
     simp only[Option.map_some,mX]at ha
     cases ha
     rw[aqF]
     exact h.2.2 x hs (p+i) v hv
  .cases hv
end SL
namespace Zt
open Go SL G Pa Wi
variable{B:World}[Zd B]{ro I I':AH}{tag tag':Nat->Nat}
variable{X q:Nat}{rd:Rd}{s:Sl}{l:Str}
theorem vq.keep{R:List Nat}(h:vq tag I q X s l rd)(k:qd R ro tag I tag' I')(hq:q∉R:=by simp):vq tag' I' q X s l rd:=by
 obtain⟨p,h1,h2,h3⟩:=h
 exact⟨p,h1,h2,h3.keep k hq⟩
theorem vq.err(h:vq tag I q X s l rd)(hs:SL.Sep ro I):qb ro I ((⟨X,0,none⟩:Addr).add 2)=some (.int .i64 rd.err):=by
 obtain⟨p,h1,h2,h3⟩:=h
 obtain⟨pp,hpp,hg⟩:=h3.ptr hs z7
 cases hpp
 exact hg 2 _ rfl
theorem jL{Q:Sl->AH->Prop}(hq6:q≠6)(h:vq tag I q X s l rd)(hr:SL.qU ro (fun _=>none) s (l.map vU))(hc:s.len<=s.cap)(hl:l.length<=140737488355328)
  (hQ:∀ d tag' I',qd [q] ro tag I tag' I'->vq tag' I' q X s l (rblob rd).2->Row tag' I' 6 5 d ((rblob rd).1.map vU)->Q d I'):qL B ro (some ⟨X,0,none⟩) I Q:=by
 refine agU fun hs=>?_
 unfold aaS
 have hln:s.len=l.length:=by rw[hr.1,ml]
 obtain⟨p,hp,hrest,r⟩:=id h
 obtain⟨pp,hpp,hg⟩:=r.ptr hs z7
 cases hpp
 refine⟨_,rfl,_,hg 1 _ rfl,?_⟩
 refine rdnum_ok h hr hl fun I1 st1 h1=>?_
 obtain⟨p1,hp1,hrest1,r1⟩:=id h1
 obtain⟨pp,hpp,hg1⟩:=r1.ptr st1.sep z7
 cases hpp
 refine⟨_,rfl,_,hg1 2 _ rfl,?_⟩
 by_cases c:(qa rd).2.err=0
 .rw[mc (j1 c)]
  refine aed h1 hr hl ?_
  by_cases c2:(qa rd).2.rest.length<(qa rd).1
  .rw[me z6]
   have e:rblob rd=([],⟨rd.rest,12⟩):=by unfold rblob;rw[mc (j1 c),me c2]
   rw[e]at hQ
   refine⟨_,rfl,?_⟩
   refine r1.st (i:=2) st1.sep rfl z7 rfl fun I2 st2 r2=>?_
   refine⟨_,rfl,?_⟩
   refine r2.st (i:=1) st2.sep rfl z7 rfl fun I3 st3 r3=>?_
   exact hQ _ tag I3 (st1.trans (st2.trans st3)) ⟨p,hp,hrest,r3⟩ (Row.nil _ _)
  .rw[mc z6]
   have e:rblob rd=((qa rd).2.rest.take (qa rd).1,⟨(qa rd).2.rest.drop (qa rd).1,0⟩):=by unfold rblob;rw[mc (j1 c),mc c2]
   rw[e]at hQ
   generalize (qa rd).1=n at c2 hQ
   rw[hrest1,Lg]at c2
   rw[hrest1]at hQ
   have ew:i64.wrap ((p1:Int)+(n:Int))=((p1+n:Nat):Int):=by rw[SL.qM z6 z6];omega
   refine⟨_,rfl,_,rfl,_,rfl,s,hg1 0 _ rfl,_,hg1 1 _ rfl,_,hg1 1 _ rfl,?_⟩
   rw[ew,mr,mr]
   refine⟨⟨⟨z6,z6⟩,⟨z6,by simp[cutHi];omega⟩⟩,?_⟩
   have hcut:=qU.cut (p:=p1) (n:=n) (hr.keep (I:=I1)) hc (by rw[ml];omega)
   refine anb (tag:=tag) (l:=((l.drop p1).take n).map vU) (by rw[List.map_take,List.map_drop];exact hcut) st1.sep (by rw[ml,nU,Lg];omega) (fun v hv=>by obtain⟨c,_,rfl⟩:=my.1 hv;rfl) fun d tag2 I2 st2 r2=>?_
   have r12:=r1.keep (st2 [])
   obtain⟨pp,hpp,hg2⟩:=r12.ptr (st2 []).sep z7
   cases hpp
   refine⟨_,rfl,_,hg2 1 _ rfl,_,rfl,?_⟩
   rw[ew]
   refine r12.st (i:=1) (st2 []).sep rfl z7 rfl fun I3 st3 r3=>?_
   rw[c]at r3
   exact hQ d tag2 I3 (st1.trans ((st2 _).trans st3)) ⟨p1+n,z6,by simp only;rw[List.drop_drop],r3⟩ (r2.keep st3 y6)
 .rw[me c]
  have e:rblob rd=([],(qa rd).2):=by unfold rblob;rw[me c]
  rw[e]at hQ
  exact hQ _ tag I1 st1 h1 (Row.nil _ _)
end Zt
namespace Zt
open Go SL G Pa Wi
variable{a st:St}{b last:Str}
structure ah2(a:St)(last:Str):Prop where
 srt:Srt a
 top:∀ p∈a,p.1<=last
 path:∀ p∈a,∃ps,parts p.1=some ps
 up:∀ k n,a.lookup k=some n->k≠[47]->∃ u m,ws k=some u/\a.lookup u=some m/\m.own=0
 kids:∀ k n,a.lookup k=some n->n.kids=(kc (a.map (·.1)) k:Nat)
 data:∀ k n,a.lookup k=some n->n.data.length<=256
 nums:∀ k n,a.lookup k=some n->kC n=true/\(n.own≠0->n.ctr=0)/\n.ctr<=10000000000
 rt:∀ n,a.lookup [47]=some n->n.data=[]/\n.ver=0/\n.own=0
 root:last≠[]->∃ n,a.lookup [47]=some n
theorem amg:ah2 [] []:=⟨List.Pairwise.nil,z7,z7,(fun k n h=>by cases h),(fun k n h=>by cases h),(fun k n h=>by cases h),(fun k n h=>by cases h),(fun n h=>by cases h),fun h=>mC rfl h⟩
theorem ah2.inv3(h:ah2 a last)(hl:last≠[])(hk:a.all (fun p=>decide (p.2.kids<=p.2.ctr))=true):asr a:=by
 have hn:=h.srt.nodup
 refine⟨⟨hn,h.root hl,fun k n hk'=>?_,h.up,h.kids,fun k n hk'=>?_,h.data⟩,fun k n hk'=>⟨(h.nums k n hk').1,(h.nums k n hk').2.1⟩,h.rt⟩
 .exact h.path _ ((jC hn).1 hk')
 .have:=mz.1 hk _ ((jC hn).1 hk')
  exact⟨j1 this,(h.nums k n hk').2.2⟩
theorem ak6{a':St}{p:Str}{n:Nd}(h:ah2 a last)(hlen:a.length<=4611686018427387000)(hn:kC n=true)(hk:n.kids=0)(e:lay a last p n=some a'):ah2 a' p/\p≠[]/\a'.length=a.length+1:=by
 unfold lay at e
 split at e
 .cases e
 rename_i hc
 simp only[not_or,not_and,Nat.not_lt,Int.not_lt]at hc
 obtain⟨c1,c2,c3,c4,c5⟩:=hc
 obtain⟨ps,hps⟩:∃ ps,parts p=some ps:=by
  cases hp:parts p with
  | none=>exact mC hp c1
  | some ps=>exact⟨ps,rfl⟩
 have hpne:=akr hps
 have hlt:last<p:=am8.1 c2
 have hnum:n.own≠0->n.ctr=0:=fun ho=>by
  have h0:0<=n.ctr:=by
   unfold kC qY at hn
   simp only[mv,mV]at hn
   exact hn.1.2.1
  have:=c5 ho
  omega
 have hnot:a.lookup p=none:=by
  cases hl:a.lookup p with
  | none=>rfl
  | some m=>
   have:=h.top _ ((jC h.srt.nodup).1 hl)
   exact mC this c2
 split at e
 .rename_i hlast
  split at e
  .rename_i hr
   cases e
   obtain⟨rfl,r1,r2,r3⟩:=hr
   have ha:a=[]:=by
    cases a with
    | nil=>rfl
    | cons q r=>
     have h1:=h.top q z7
     obtain⟨qs,hqs⟩:=h.path q z7
     rw[hlast]at h1
     exact mC (List.le_nil.1 h1) (akr hqs)
   subst ha
   have hl:∀ k m,List.lookup k ([]++[(([47]:Str),n)])=some m->k=[47]/\m=n:=fun k m hm=>by
    rw[nZ,nA]at hm
    by_cases ck:k=[47]
    .subst ck;simp at hm;exact⟨rfl,hm.symm⟩
    .rw[show(k == [47])=false by simpa using ck]at hm;cases hm
   refine⟨⟨by simp[Srt],z7,fun q hq=>by simp at hq;subst hq;exact⟨ps,hps⟩,fun k m hm hne=>mC (hl k m hm).1 hne,fun k m hm=>?_,fun k m hm=>by rw[(hl k m hm).2];omega,fun k m hm=>by rw[(hl k m hm).2];exact⟨hn,hnum,z6⟩,fun m hm=>by rw[(hl _ m hm).2];exact⟨r1,r2,r3⟩,fun _=>⟨n,z7⟩⟩,z7,z7⟩
   obtain⟨rfl,rfl⟩:=hl k m hm
   rw[hk];try rfl
  .cases e
 .rename_i hlast
  cases hpu:ws p with
  | none=>rw[hpu]at e;cases e
  | some u=>
   rw[hpu]at e
   simp only at e
   cases hlu:a.lookup u with
   | none=>rw[hlu]at e;cases e
   | some m=>
    rw[hlu]at e
    simp only at e
    split at e
    .cases e
    rename_i hmo
    simp only[mE]at hmo
    cases e
    have hpnu:p≠u:=akS hpu
    have hkeys:(xo a u uE++[(p,n)]).map (·.1)=a.map (·.1)++[p]:=by rw[mJ,aqk];try rfl
    have lk:∀ k,(xo a u uE++[(p,n)]).lookup k=if k=p then some n else if k=u then(a.lookup k).map uE else a.lookup k:=fun k=>by
     rw[an4,ajC]
     by_cases ck:k=p
     .subst ck;rw[mc hpnu,hnot,me rfl]
     .rw[mc ck]
      by_cases cu:k=u
      .subst cu;simp[hlu,ck]
      .rw[mc cu];cases a.lookup k<;>simp[ck]
    have old:∀ k x,(xo a u uE++[(p,n)]).lookup k=some x->k≠p->∃ y,a.lookup k=some y/\x.own=y.own/\x.data=y.data/\x.ver=y.ver/\x.ctr=y.ctr/\x.kids=if k=u then i64.wrap (y.kids+1)else y.kids:=fun k x hx ck=>by
     rw[lk,mc ck]at hx
     by_cases cu:k=u
     .rw[me cu]at hx
      obtain⟨y,hy,rfl⟩:=Li.1 hx
      exact⟨y,hy,rfl,rfl,rfl,rfl,by rw[me cu];try rfl⟩
     .rw[mc cu]at hx
      exact⟨x,hx,rfl,rfl,rfl,rfl,by rw[mc cu]⟩
    have self:∀ x,(xo a u uE++[(p,n)]).lookup p=some x->x=n:=fun x hx=>by
     rw[lk,me rfl]at hx;exact(mQ hx).symm
    have up':∀ k y,a.lookup k=some y->∃ x,(xo a u uE++[(p,n)]).lookup k=some x/\x.own=y.own:=fun k y hy=>by
     have ck:k≠p:=fun e=>by rw[e,hnot]at hy;cases hy
     rw[lk,mc ck]
     by_cases cu:k=u
     .rw[me cu,hy];exact⟨_,rfl,rfl⟩
     .rw[mc cu];exact⟨y,hy,rfl⟩
    have hr47:p≠[47]:=fun e=>by rw[e,amz]at hpu;cases hpu
    have hkc0:kc (a.map (·.1)) p=0:=nL fun h0=>by
     obtain⟨q,hq,hqp⟩:=aso h0
     obtain⟨y,hy,rfl⟩:=my.1 hq
     have h1:=aoV hqp
     have h2:=h.top y hy
     exact c2 (List.le_trans (List.le_of_lt h1) h2)
    refine⟨⟨?_,fun q hq=>?_,fun q hq=>?_,fun k x hx hne=>?_,fun k x hx=>?_,fun k x hx=>?_,fun k x hx=>?_,fun x hx=>?_,fun _=>?_⟩,hpne,by simp[xo]⟩
    .have hs:=(LA (f:=fun q:Str×Nd=>q.1) (R:=fun x y:Str=>x<y) (l:=a)).2 h.srt
     refine(LA (f:=fun q:Str×Nd=>q.1) (R:=fun x y:Str=>x<y) (l:=xo a u uE++[(p,n)])).1 ?_
     rw[hkeys]
     refine List.pairwise_append.2 ⟨hs,z7,fun x hx y hy=>?_⟩
     obtain⟨z,hz,rfl⟩:=my.1 hx
     simp at hy;subst hy
     exact List.lt_of_le_of_lt (h.top z hz) hlt
    .have:q.1∈a.map (·.1)++[p]:=by rw[<-hkeys];exact my.2 ⟨q,hq,rfl⟩
     rcases mt.1 this with h1 | h1
     .obtain⟨z,hz,ez⟩:=my.1 h1
      rw[<-ez];exact List.le_trans (h.top z hz) (List.le_of_lt hlt)
     .simp at h1;rw[h1];exact List.le_refl _
    .have:q.1∈a.map (·.1)++[p]:=by rw[<-hkeys];exact my.2 ⟨q,hq,rfl⟩
     rcases mt.1 this with h1 | h1
     .obtain⟨z,hz,ez⟩:=my.1 h1
      rw[<-ez];exact h.path z hz
     .simp at h1;rw[h1];exact⟨ps,hps⟩
    .by_cases ck:k=p
     .subst ck
      obtain⟨x',hx',ho⟩:=up' u m hlu
      exact⟨u,x',hpu,hx',by rw[ho];exact hmo⟩
     .obtain⟨y,hy,_⟩:=old k x hx ck
      obtain⟨w,z,w1,w2,w3⟩:=h.up k y hy hne
      obtain⟨x',hx',ho⟩:=up' w z w2
      exact⟨w,x',w1,hx',by rw[ho];exact w3⟩
    .rw[hkeys,aik]
     by_cases ck:k=p
     .subst ck
      rw[self x hx,hk,hkc0,hpu,mc (by simpa using fun e=>hpnu e.symm)];try rfl
     .obtain⟨y,hy,_,_,_,_,hkk⟩:=old k x hx ck
      have hyk:=h.kids k y hy
      have hle:=atg (a.map (·.1)) k
      rw[ml]at hle
      rw[hkk,hpu]
      by_cases cu:k=u
      .subst cu
       rw[me rfl,me rfl,hyk,Pa.inc _ z6]
      .rw[mc cu,mc (by simpa using fun e=>cu e.symm),hyk];try rfl
    .by_cases ck:k=p
     .subst ck;rw[self x hx];omega
     .obtain⟨y,hy,_,hd,_⟩:=old k x hx ck
      rw[hd];exact h.data k y hy
    .by_cases ck:k=p
     .subst ck;rw[self x hx];exact⟨hn,hnum,z6⟩
     .obtain⟨y,hy,h1,_,h3,h4,_⟩:=old k x hx ck
      obtain⟨z1,z2,z3⟩:=h.nums k y hy
      exact⟨by unfold kC at z1 ⊢;rw[h1,h3,h4];exact z1,by rw[h1,h4];exact z2,by rw[h4];exact z3⟩
    .obtain⟨y,hy,h1,h2,h3,_⟩:=old [47] x hx (Ne.symm hr47)
     obtain⟨z1,z2,z3⟩:=h.rt y hy
     exact⟨by rw[h2];exact z1,by rw[h3];exact z2,by rw[h1];exact z3⟩
    .obtain⟨y,hy⟩:=h.root hlast
     obtain⟨x',hx',_⟩:=up' _ y hy
     exact⟨x',hx'⟩
theorem aeY(r:Rd):(qa r).1<4611686018427387904:=by
 unfold qa
 split
 .simp
 .exact(ajD _).2
theorem aps:∀ (f:Nat) (rd:Rd) (a:St) (last:Str) (st:St),ada f rd a last=some st->ah2 a last->a.length+f<=4611686018427387000->∃ last',last'≠[]/\ah2 st last'/\st.length<=a.length+f:=by
 intro f
 induction f with
 | zero=>intro rd a last st e;cases e
 | succ f ih=>
  intro rd a last st e h hl
  unfold ada at e
  split at e
  .rename_i hc
   cases e
   exact⟨last,hc.2,h,z6⟩
  .split at e
   .cases e
   .cases hly:lay a last (wi rd).1.1 (wi rd).1.2 with
    | none=>rw[hly]at e;cases e
    | some a'=>
     rw[hly]at e
     simp only at e
     have hnums:kC (wi rd).1.2=true:=by
      unfold kC qY wi
      simp only[mv,mV]
      have k1:=aeY (rblob (rblob rd).2).2
      have k2:=aeY (qa (rblob (rblob rd).2).2).2
      have k3:=aeY (qa (qa (rblob (rblob rd).2).2).2).2
      omega
     obtain⟨l1,l2,l3⟩:=ak6 h z6 hnums rfl hly
     obtain⟨last',m1,m2,m3⟩:=ih _ a' _ st e l1 z6
     exact⟨last',m1,m2,z6⟩
theorem ag7(h:dec b=some st)(hb:b.length<=140737488355328):asr st/\Srt st/\st.length<=b.length+1:=by
 unfold dec at h
 cases e:ada (b.length+1) ⟨b,0⟩ [] []with
 | none=>rw[e]at h;cases h
 | some st'=>
  rw[e]at h
  simp only at h
  split at h
  .rename_i hk
   cases h
   obtain⟨last,l1,l2,l3⟩:=aps _ _ _ _ _ e amg y6
   exact⟨l2.inv3 l1 hk,l2.srt,j1 l3⟩
  .cases h
end Zt
namespace Zt
open Go SL Pa Wi
def ajY(l:List Int):Str:=l.flatMap fun m=>qO m.toNat
def gnums:Nat->Rd->List Int×Rd
 | 0,r=>([],r)
 | n+1,r=>(((qa r).1:Int)::(gnums n (qa r).2).1,(gnums n (qa r).2).2)
theorem aqG(a:St)(u:Str):acD (xo a u uE)=acD a:=by
 unfold acD xo
 induction a with
 | nil=>rfl
 | cons p a ih=>
  rw[nx,na,na,ih]
  congr 1
  split<;>rfl
theorem apt{a a':St}{last p:Str}{n:Nd}(e:lay a last p n=some a'):acD a'=acD a++akq (p,n):=by
 unfold lay at e
 split at e
 .cases e
 .split at e
  .split at e
   .cases e;unfold acD;simp
   .cases e
  .split at e
   .cases e
   .split at e
    .cases e
    .split at e
     .cases e
     .cases e
      have:=aqG a
      unfold acD at this⊢
      rw[List.flatMap_append,this];simp
theorem amF{r:Rd}(h:(wi r).2.err=0):r.rest=akq (wi r).1++(wi r).2.rest:=by
 have h5:(qa (qa (qa (rblob (rblob r).2).2).2).2).2.err=0:=h
 have h4:=wV h5
 have h3:=wV h4
 have h2:=wV h3
 have h1:=pO h2
 unfold akq wi
 simp only[mr,mI]
 rw[<-(wo h5).2,<-(wo h4).2,<-(wo h3).2,<-(zB h2).2]
 exact(zB h1).2
theorem aoj:∀ (f:Nat) (r:Rd) (a:St) (last:Str) (st:St),ada f r a last=some st->acD st=acD a++r.rest:=by
 intro f
 induction f with
 | zero=>intro r a last st e;cases e
 | succ f ih=>
  intro r a last st e
  unfold ada at e
  split at e
  .rename_i hc
   cases e
   rw[hc.1,nN]
  .split at e
   .cases e
   .rename_i h1
    cases hly:lay a last (wi r).1.1 (wi r).1.2 with
    | none=>rw[hly]at e;cases e
    | some a'=>
     rw[hly]at e
     rw[ih _ _ _ _ e,apt hly,mI,<-amF (j1 h1)]
theorem apu{b:Str}{st:St}(h:dec b=some st)(hb:b.length<=140737488355328):af9 st=b:=by
 obtain⟨h3,hs,_⟩:=ag7 h hb
 have e:srt st=st:=(asq hs (List.Perm.refl _)).symm
 have hall:(srt st).all (fun p=>kC p.2)=true:=by
  rw[e,mz]
  intro p hp
  exact(h3.nums p.1 p.2 ((jC hs.nodup).2 hp)).1
 unfold af9
 rw[me hall,e]
 unfold dec at h
 cases k:ada (b.length+1) ⟨b,0⟩ [] []with
 | none=>rw[k]at h;cases h
 | some st'=>
  rw[k]at h
  simp only at h
  split at h
  .cases h
   have:=aoj _ _ _ _ _ k
   simpa [acD]using this
  .cases h
theorem akx{α:Type}{f:α->Str}:∀ {l:List α},(∀y∈l,1<=(f y).length)->l.length<=(l.flatMap f).length
 | [],_=>by simp
 | y::l,h=>by
  have h1:=akx (l:=l) (f:=f) fun z hz=>h z (by simp[hz])
  have h2:=h y z7
  rw[na,mU,mA];omega
theorem aky{α:Type}{f:α->Str}{y:α}:∀ {l:List α},y∈l->(f y).length<=(l.flatMap f).length
 | [],h=>by cases h
 | z::l,h=>by
  rw[na,mU]
  rcases mD.1 h with rfl | h
  .omega
  .have:=aky (l:=l) (f:=f) h;omega
theorem aqH(n:Nat):1<=(qO n).length:=by
 rw[qO];split<;>simp
theorem aeZ(d:Str):1+d.length<=(ue d).length:=by
 unfold ue
 have:=aqH d.length
 rw[mU];omega
theorem ai4.w{b:Str}{t:Tbl}{bs:Str}(g:ai4 b t)(e:bs=qO t.length++t.flatMap vv)(hl:bs.length<=1048576):ag4 t:=by
 have hfl:(t.flatMap vv).length<=1048576:=by rw[e,mU]at hl;omega
 have hbh:∀ p:Str×jf,1<=(vv p).length:=fun p=>by
  unfold vv
  have:=aeZ p.1
  rw[mU];omega
 refine⟨g.nd,fun p hp=>by have:=adw (g.names p hp);omega,?_,fun p hp=>(g.ok p hp).len,fun p hp y hy=>?_,fun p hp y hy=>?_⟩
 .have:=akx (l:=t) (f:=vv) fun y _=>hbh y
  omega
 .have h1:=(g.ok p hp).live.lo y hy
  have h2:=(g.ok p hp).live.hi y hy
  have h3:=(g.ok p hp).last
  omega
 .have h1:=aky (f:=vv) hp
  have h2:=aky (f:=yy) hy
  have h3:(p.2.live.flatMap yy).length<=(vv p).length:=by unfold vv;simp only[mU];omega
  have h4:=aeZ y.2.reply
  have h5:(ue y.2.reply).length<=(yy y).length:=by unfold yy;simp only[mU];omega
  omega
theorem ai7.w{b:Str×Int}{t:Hub}{bs:Str}(g:ai7 b t)(e:bs=qO t.length++t.flatMap act)(hl:bs.length<=1048576):ame t:=by
 have hfl:(t.flatMap act).length<=1048576:=by rw[e,mU]at hl;omega
 refine⟨g.nd,fun p hp=>by have:=adw (g.ok p hp).name;omega,?_,fun p hp=>⟨by have:=(g.ok p hp).room;omega,fun e he=>((g.ok p hp).evs e he).2⟩,fun p hp=>⟨by have:=(g.ok p hp).room;omega,fun m hm=>ai0 ((g.ok p hp).mks m hm).2⟩,fun p hp=>(g.ok p hp).up.imp fun h e=>by rw[e]at h;exact pU _ h⟩
 have:=akx (l:=t) (f:=act) fun p _=>by
  unfold act
  have:=aeZ p.1.1
  rw[mU];omega
 omega
structure RS where
 epoch:Int
 members:List Int
 tree:Str
 tbl:Str
 hub:Str
 r:Rd
def wl(b:Str):RS:=
 let a1:=qa ⟨b,0⟩
 let a2:=qa a1.2
 let a3:=gnums (min a2.1 8) a2.2
 let a4:=rblob a3.2
 let a5:=rblob a4.2
 let a6:=rblob a5.2
 ⟨a1.1,a3.1,a4.1,a5.1,a6.1,a6.2⟩
def afy(st:St)(t:Tbl):Prop:= ∀p∈t,p.2.live≠[]->(st.lookup (47::p.1)).isSome=true
instance (st:St) (t:Tbl):Decidable (afy st t):=by unfold afy;infer_instance
def xI(b:Str):Option Sto:=match dec (wl b).tree,pd (wl b).tbl,pf (wl b).hub with
 | some st,some t,some h=>if(wl b).r.err≠0\/0<(wl b).r.rest.length\/zH (wl b).members=false\/¬ afy st t then none else some ⟨(wl b).epoch,(wl b).members,st,t,h⟩
 | _,_,_=>none
theorem ah3:∀ {n:Nat} {r:Rd},(gnums n r).2.err=0->r.err=0
 | 0,r,h=>h
 | n+1,r,h=>wV (ah3 (n:=n) h)
theorem aiK:∀ {n:Nat} {r:Rd},(gnums n r).2.err=0->(gnums n r).1.length=n/\r.rest=ajY (gnums n r).1++(gnums n r).2.rest/\∀ x∈(gnums n r).1,qY x=true
 | 0,r,h=>⟨rfl,rfl,fun x hx=>by cases hx⟩
 | n+1,r,h=>by
  obtain⟨h1,h2,h3⟩:=aiK (n:=n) (r:=(qa r).2) h
  have e:=wo (ah3 (n:=n) (r:=(qa r).2) h)
  unfold gnums
  refine⟨by simp[h1],?_,fun x hx=>?_⟩
  .unfold ajY at h2⊢
   rw[na,mI,<-h2,mr]
   exact e.2
  .rcases mD.1 hx with rfl | hx
   .exact vu _
   .exact h3 x hx
theorem ajZ:∀ (l:List Int) {a:Str},(∀x∈l,qY x=true)->l.foldl wB (a,false)=(a++ajY l,false)
 | [],a,_=>by simp[ajY]
 | x::l,a,h=>by
  rw[nj,wnum_yes (h x z7),ajZ l fun q hq=>h q (by simp[hq])]
  simp[ajY]
theorem apv{l:List Int}(h:zH l=true):l.length<=7:=by
 unfold zH at h
 simp only[mv,mV]at h
 exact h.2
theorem aok{b:Str}{s:Sto}(h:xI b=some s)(hb:b.length<=1048576):ahY s=b/\aod s:=by
 unfold xI at h
 cases h1:dec (wl b).tree with
 | none=>rw[h1]at h;cases h
 | some st=>
  cases h2:pd (wl b).tbl with
  | none=>rw[h1,h2]at h;cases h
  | some t=>
   cases h3:pf (wl b).hub with
   | none=>rw[h1,h2,h3]at h;cases h
   | some hu=>
    rw[h1,h2,h3]at h
    simp only at h
    split at h
    .cases h
    rename_i c
    cases h
    rw[not_or,not_or,not_or,mE]at c
    obtain⟨c1,c2,c3,c4⟩:=c
    unfold wl at*
    simp only at*
    have z5:=pO c1
    have z4:=pO z5
    have z3:=pO z4
    have z2:=ah3 z3
    have z1:=wV z2
    obtain⟨g1,g2,g3⟩:=aiK z3
    have hm:zH (gnums (min (qa (qa ⟨b,0⟩).2).1 8) (qa (qa ⟨b,0⟩).2).2).1=true:=by simpa using c3
    have hml:=apv hm
    have hn:(gnums (min (qa (qa ⟨b,0⟩).2).1 8) (qa (qa ⟨b,0⟩).2).2).1.length=(qa (qa ⟨b,0⟩).2).1:=by omega
    have hrest:(rblob (rblob (rblob (gnums (min (qa (qa ⟨b,0⟩).2).1 8) (qa (qa ⟨b,0⟩).2).2).2).2).2).2.rest=[]:=mG z6
    have e1:=(wo z1).2
    have e2:=(wo z2).2
    have e4:=(zB z4).2
    have e5:=(zB z5).2
    have e6:=(zB c1).2
    rw[hrest,nN]at e6
    simp only at e1
    have hlen:=mi List.length e1
    have hlen2:=mi List.length e2
    have hlen3:=mi List.length g2
    have hlen4:=mi List.length e4
    have hlen5:=mi List.length e5
    have hlen6:=mi List.length e6
    simp only[mU]at hlen hlen2 hlen3 hlen4 hlen5 hlen6
    have b4:=aeZ (rblob (gnums (min (qa (qa ⟨b,0⟩).2).1 8) (qa (qa ⟨b,0⟩).2).2).2).1
    have b5:=aeZ (rblob (rblob (gnums (min (qa (qa ⟨b,0⟩).2).1 8) (qa (qa ⟨b,0⟩).2).2).2).2).1
    have b6:=aeZ (rblob (rblob (rblob (gnums (min (qa (qa ⟨b,0⟩).2).1 8) (qa (qa ⟨b,0⟩).2).2).2).2).2).1
    have r1:=vu ⟨b,0⟩
    have r2:=vu (qa ⟨b,0⟩).2
    generalize (rblob (rblob (rblob (gnums (min (qa (qa ⟨b,0⟩).2).1 8) (qa (qa ⟨b,0⟩).2).2).2).2).2).1=x6 at*
    generalize (rblob (rblob (gnums (min (qa (qa ⟨b,0⟩).2).1 8) (qa (qa ⟨b,0⟩).2).2).2).2)=a5 at*
    generalize (rblob (gnums (min (qa (qa ⟨b,0⟩).2).1 8) (qa (qa ⟨b,0⟩).2).2).2)=a4 at*
    generalize gnums (min (qa (qa ⟨b,0⟩).2).1 8) (qa (qa ⟨b,0⟩).2).2=a3 at*
    obtain⟨t1,t2,t3⟩:=ai5 h2
    obtain⟨u1,u2,u3⟩:=aqD h3
    have w1:=apu h1 z6
    refine⟨?_,⟨by simp only;omega,by simp only;rw[w1];omega,t2.w t3 z6,u2.w u3 z6⟩⟩
    unfold ahY ai1 aeP
    simp only[nj,Lb]
    rw[wnum_yes r1,hn,wnum_yes r2,ajZ _ g3,w1,t1,u1,uQ z6,uQ z6,uQ z6]
    unfold adg
    simp only[mr,nZ,mI]
    rw[mc z7,<-e6,<-e5,<-e4,<-g2,<-e2,<-e1]