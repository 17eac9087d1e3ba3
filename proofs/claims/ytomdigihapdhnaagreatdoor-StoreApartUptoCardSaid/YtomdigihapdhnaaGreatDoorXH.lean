import Derived.Test.YtomdigihapdhnaaGreatDoorXG
set_option linter.all false
set_option maxRecDepth 99999
set_option maxHeartbeats 0
open Go.IntKind(i64)
open Go.Proofs.Tryz
namespace Go.Proofs.YtomdigihapdhnaaGreatDoor
namespace Zt
open Go SL Pa
variable{o v:Int}{ks:List Str}{n:Nd}{st:St}{d k p q u:Str}
def kc(ks:List Str)(u:Str):Nat:=ks.countP fun k=>qw k=some u
def wu(st:St)(u:Str)(f:Nd->Nd)(k:Str):(wH st u f).lookup k=if k=u then(st.lookup k).map f else st.lookup k:=by
 induction st with
 | nil=>simp[wH]
 | cons p st ih=>
  obtain⟨p,n⟩:=p
  unfold wH at ih⊢
  rw[mF]
  by_cases e:p=u
  .subst e
   simp only[if_true]
   rw[na,na,ih]
   by_cases c:k=p
   .subst c;simp
   .rw[show(k == p)=false by simpa using c]
  .simp only[e,if_false]
   rw[na,na,ih]
   by_cases c:k=p
   .subst c;simp[e]
   .rw[show(k == p)=false by simpa using c]
def jv(st:St)(q:Str)(n:Nd)(k:Str):(st++[(q,n)]).lookup k=match st.lookup k with | some m=>some m | none=>if k=q then some n else none:=by
 induction st with
 | nil=>
  rw[nF,na]
  by_cases c:k=q
  .subst c;simp
  .rw[show(k == q)=false by simpa using c];simp[c]
 | cons p st ih=>
  obtain⟨p,m⟩:=p
  rw[ng,na,na,ih]
  by_cases c:k=p
  .subst c;simp
  .rw[show(k == p)=false by simpa using c]
def ajI(h:k∉st.map (·.1)):st.lookup k=none:=by
 rw[List.lookup_eq_none_iff]
 intro p hp
 simp
 intro e
 exact h (mN.2 ⟨p,hp,e.symm⟩)
def uN(hk:(st.map (·.1)).Nodup)(q k:Str):(pd st q).lookup k=if k=q then none else st.lookup k:=by
 induction st with
 | nil=>simp[pd]
 | cons p st ih=>
  obtain⟨p,n⟩:=p
  rw[mF,nv]at hk
  unfold pd
  by_cases e:q=p
  .subst e
   rw[mc rfl]
   by_cases c:k=q
   .subst c;rw[mc rfl];exact ajI hk.1
   .rw[ma c,na,show(k == q)=false by simpa using c]
  .rw[ma e,na,na,ih hk.2]
   by_cases c:k=p
   .subst c;simp[show¬k=q from fun h=>e h.symm]
   .rw[show(k == p)=false by simpa using c]
def pf(st:St)(u:Str)(f:Nd->Nd):(wH st u f).map (·.1)=st.map (·.1):=by
 unfold wH;rw[Lh]
 refine List.map_congr_left fun p _=>?_
 simp only[Function.comp]
 split<;>rfl
def atC(h:st.lookup q=some n):∃ a b,st.map (·.1)=a++q::b/\(pd st q).map (·.1)=a++b:=by
 induction st with
 | nil=>cases h
 | cons p st ih=>
  obtain⟨p,m⟩:=p
  unfold pd
  by_cases e:q=p
  .subst e;exact⟨[],st.map (·.1),rfl,by rw[mc rfl];try rfl⟩
  .rw[na,show(q == p)=false by simpa using e]at h
   obtain⟨a,b,h1,h2⟩:=ih h
   exact⟨p::a,b,by rw[mF,h1];try rfl,by rw[ma e,mF,h2];try rfl⟩
def ag2(h:k∈st.map (·.1)):∃ n,st.lookup k=some n:=by
 cases e:st.lookup k with
 | some n=>exact⟨n,rfl⟩
 | none=>exact mt h (ac8 e)
def ag3(h:st.lookup k=some n):k∈st.map (·.1):=np fun hn=>by
 rw[ajI hn]at h;cases h
structure Inv(st:St):Prop where
 keys:(st.map (·.1)).Nodup
 root:∃ n,st.lookup [47]=some n
 path:∀ k n,st.lookup k=some n->∃ ps,parts k=some ps
 up:∀ k n,st.lookup k=some n->k≠[47]->∃ u m,qw k=some u/\st.lookup u=some m/\m.own=0
 kids:∀ k n,st.lookup k=some n->n.kids=(kc (st.map (·.1)) k:Nat)
 ctr:∀ k n,st.lookup k=some n->n.kids<=n.ctr/\n.ctr<=10000000000
 data:∀ k n,st.lookup k=some n->n.data.length<=256
def avf:Inv St.new:=by
 have hl:∀ k n,St.new.lookup k=some n->k=[47]/\n=⟨0,0,0,0,[]⟩:=fun k n h=>by
  unfold St.new at h
  rw[na]at h
  by_cases c:k=[47]
  .subst c;simp at h;exact⟨rfl,h.symm⟩
  .rw[show(k == [47])=false by simpa using c]at h;cases h
 refine⟨by simp[St.new],⟨_,rfl⟩,fun k n h=>?_,fun k n h hne=>mt (hl k n h).1 hne,fun k n h=>?_,fun k n h=>?_,fun k n h=>?_⟩
 .rw[(hl k n h).1];exact⟨[],rfl⟩
 .obtain⟨rfl,rfl⟩:=hl k n h
  decide
 .rw[(hl k n h).2];decide
 .rw[(hl k n h).2];decide
def avg(k n:Nat):∀ c∈aeP k n,c≠47:=by
 induction k generalizing n with
 | zero=>intro c h;cases h
 | succ k ih=>
  intro c h
  rw[aeP]at h
  rcases mv.1 h with h | h
  .exact ih _ c h
  .rw[mr]at h
   intro e
   have h1:=mj UInt8.toNat (h.symm.trans e)
   have:n%10<10:=LX _ z7
   simp at h1
   omega
def abm{n:Int}(h:pn p n=some q):∃ ps,parts q=some ps/\qw q=qw p:=by
 unfold pn at h
 cases hp:parts p with
 | none=>rw[hp]at h;cases h
 | some ps=>
  rw[hp]at h
  simp only at h
  split at h
  .cases h
  .rename_i hn
   split at h
   .rename_i hs
    cases h
    obtain⟨qs,hqs⟩:=LU.1 hs
    refine⟨qs,hqs,?_⟩
    obtain⟨hl,hg⟩:=qZ.1 hp
    obtain⟨hql,hqg⟩:=qZ.1 hqs
    have hne:ps≠[]:=fun e=>hn (.inl e)
    obtain⟨zs,x,rfl⟩:∃ zs x,ps=zs++[x]:=by
     rcases List.eq_nil_or_concat ps with e | ⟨zs,x,e⟩
     .exact mt e hne
     .exact⟨zs,x,by rw[e,List.concat_eq_append]⟩
    have e1:p++ua n=mk (zs++[x++ua n]):=by
     rw[hl,acC,acC];simp
    have hqn:qs≠[]:=by
     intro e
     subst e
     have h1:=mj List.length hql
     rw[mA]at h1
     have h2:1<=p.length:=by rw[hl];exact alW _
     have h3:(ua n).length=10:=aoL 10 _
     simp[mk]at h1;omega
    have e2:qs=zs++[x++ua n]:=by
     have c1:cut ((mk qs).drop 1)=qs:=by unfold mk;rw[ma hqn];exact ajC qs hqn fun y hy=>adY (hqg.ok y hy)
     have c2:cut ((mk (zs++[x++ua n])).drop 1)=zs++[x++ua n]:=by
      unfold mk;rw[ma y0]
      refine ajC _ y0 fun y hy=>?_
      rcases mv.1 hy with h | h
      .exact adY (hg.ok y (by simp[h]))
      .rw[mr]at h
       rw[h]
       intro hm
       rcases mv.1 hm with h' | h'
       .exact adY (hg.ok x y0) h'
       .exact avg _ _ 47 h' rfl
     rw[<-c1,<-hql,e1,c2]
    unfold qw
    rw[hqs,hp,e2]
    simp
   .cases h
def ahT(a b:List Str)(u:Str):kc (a++b) u=kc a u+kc b u:=by unfold kc;rw[List.countP_append]
def al2(q u:Str):kc [q] u=if qw q=some u then 1 else 0:=by unfold kc;simp[List.countP_cons]
def ar1(h:kc ks u≠0):∃ k∈ks,qw k=some u:=by
 have:0<kc ks u:=by omega
 unfold kc at this
 rw[List.countP_pos_iff]at this
 obtain⟨k,h1,h2⟩:=this
 exact⟨k,h1,j4 h2⟩
def auW(h:k∈ks)(hp:qw k=some u):kc ks u≠0:=by
 have:0<kc ks u:=by
  unfold kc
  rw[List.countP_pos_iff]
  exact⟨k,h,j4 hp⟩
 omega
def ahy:qw [47]=none:=rfl
def Inv.no_kids(h:Inv st)(hq:st.lookup q=none):kc (st.map (·.1)) q=0:=by
 refine np fun hn=>?_
 obtain⟨k,hk,hp⟩:=ar1 hn
 obtain⟨n,hl⟩:=ag2 hk
 have hne:k≠[47]:=fun e=>by rw[e,ahy]at hp;cases hp
 obtain⟨u,m,h1,h2,_⟩:=h.up k n hl hne
 rw[hp]at h1
 cases h1
 rw[hq]at h2;cases h2
def aoO(h:qw q=some u):∃ ps,parts q=some ps:=by
 unfold qw at h
 cases hp:parts q with
 | none=>rw[hp]at h;cases h
 | some ps=>exact⟨ps,rfl⟩
def avh(h:Inv st)(hlen:st.length<=4398046511104)(hu:st.lookup u=some n)(ho:n.own=0)(hc:¬ 9999999999<n.ctr)(hq:st.lookup q=none)(hpq:qw q=some u)(hd:d.length<=256):
  Inv (wH (st++[(q,⟨0,0,o,0,d⟩)]) u jL):=by
 have hqu:q≠u:=fun e=>by rw[e,hu]at hq;cases hq
 have hkids:=h.kids u n hu
 have hctr:=h.ctr u n hu
 have hle:kc (st.map (·.1)) u<=st.length:=by unfold kc;exact LA List.countP_le_length y0
 have lk:∀ k,(wH (st++[(q,(⟨0,0,o,0,d⟩:Nd))]) u jL).lookup k=if k=u then some (jL n)else if k=q then some ⟨0,0,o,0,d⟩else st.lookup k:=fun k=>by
  rw[wu,jv]
  by_cases e:k=u
  .subst e;rw[mc rfl,mc rfl,hu];try rfl
  .rw[ma e,ma e]
   by_cases e2:k=q
   .subst e2;rw[hq]
   .rw[ma e2,ma e2];cases st.lookup k<;>rfl
 have hb:jL n={n with ctr:=n.ctr+1,kids:=n.kids+1}:=by
  unfold jL
  rw[SL.qY z7 z7,SL.qY z7 z7]
 have hkeys:(wH (st++[(q,(⟨0,0,o,0,d⟩:Nd))]) u jL).map (·.1)=st.map (·.1)++[q]:=by rw[pf,my];try rfl
 have hkc:∀ k,kc ((wH (st++[(q,(⟨0,0,o,0,d⟩:Nd))]) u jL).map (·.1)) k=kc (st.map (·.1)) k+if u=k then 1 else 0:=fun k=>by
  rw[hkeys,ahT,al2,hpq]
  simp
 have old:∀ v m,st.lookup v=some m->∃ m',(wH (st++[(q,(⟨0,0,o,0,d⟩:Nd))]) u jL).lookup v=some m'/\m'.own=m.own:=fun v m hv=>by
  rw[lk]
  by_cases e:v=u
  .subst e
   rw[hu]at hv;cases hv
   exact⟨_,mc rfl,rfl⟩
  .have e2:v≠q:=fun e=>by rw[e,hq]at hv;cases hv
   exact⟨m,by rw[ma e,ma e2];exact hv,rfl⟩
 have cases3:∀ k m,(wH (st++[(q,(⟨0,0,o,0,d⟩:Nd))]) u jL).lookup k=some m->(k=u/\m=jL n)\/(k=q/\k≠u/\m=⟨0,0,o,0,d⟩)\/(k≠u/\k≠q/\st.lookup k=some m):=fun k m hk=>by
  rw[lk]at hk
  by_cases e:k=u
  .rw[mc e]at hk;exact .inl ⟨e,(mB hk).symm⟩
  .rw[ma e]at hk
   by_cases e2:k=q
   .rw[mc e2]at hk;exact .inr (.inl ⟨e2,e,(mB hk).symm⟩)
   .rw[ma e2]at hk;exact .inr (.inr ⟨e,e2,hk⟩)
 refine⟨?_,?_,fun k m hk=>?_,fun k m hk hne=>?_,fun k m hk=>?_,fun k m hk=>?_,fun k m hk=>?_⟩
 .rw[hkeys,List.nodup_append]
  refine⟨h.keys,y0,?_⟩
  intro x hx y hy
  simp at hy
  intro e
  exact ac8 hq (by rw[<-hy,<-e];exact hx)
 .obtain⟨n0,h0⟩:=h.root
  obtain⟨m',h1,_⟩:=old _ _ h0
  exact⟨m',h1⟩
 .rcases cases3 k m hk with⟨rfl,_⟩ | ⟨rfl,_,_⟩ | ⟨_,_,h3⟩
  .exact h.path _ n hu
  .exact aoO hpq
  .exact h.path k m h3
 .have fin:∀ v mm,qw k=some v->st.lookup v=some mm->mm.own=0->∃ u' m',qw k=some u'/\(wH (st++[(q,(⟨0,0,o,0,d⟩:Nd))]) u jL).lookup u'=some m'/\m'.own=0:=fun v mm h1 h2 h3=>by
   obtain⟨m',h4,h5⟩:=old v mm h2
   exact⟨v,m',h1,h4,by rw[h5];exact h3⟩
  rcases cases3 k m hk with⟨rfl,_⟩ | ⟨rfl,_,_⟩ | ⟨_,_,h3⟩
  .obtain⟨v,mm,h1,h2,h3⟩:=h.up _ n hu hne
   exact fin v mm h1 h2 h3
  .exact fin u n hpq hu ho
  .obtain⟨v,mm,h1,h2,h4⟩:=h.up k m h3 hne
   exact fin v mm h1 h2 h4
 .rw[hkc]
  rcases cases3 k m hk with⟨rfl,rfl⟩ | ⟨rfl,hne,rfl⟩ | ⟨h1,_,h3⟩
  .rw[mc rfl,hb];show n.kids+1=_;omega
  .rw[ma (fun e=>hne e.symm),h.no_kids hq];try rfl
  .rw[ma (fun e=>h1 e.symm)];exact h.kids k m h3
 .rcases cases3 k m hk with⟨rfl,rfl⟩ | ⟨rfl,hne,rfl⟩ | ⟨h1,_,h3⟩
  .rw[hb];show n.kids+1<=n.ctr+1/\n.ctr+1<=_;omega
  .exact⟨Int.le_refl _,show(0:Int)<=10000000000 by decide⟩
  .exact h.ctr k m h3
 .rcases cases3 k m hk with⟨rfl,rfl⟩ | ⟨rfl,hne,rfl⟩ | ⟨h1,_,h3⟩
  .exact h.data _ n hu
  .exact hd
  .exact h.data k m h3
def aq1(st:St)(p d:Str)(o:Int)(seq:Bool):(we st p d o seq).1.length<=st.length+1:=by
 unfold we
 repeat' split
 all_goals first | exact Nat.le_succ _ | (simp[wH])
def aq2{seq:Bool}(h:Inv st)(hlen:st.length<=4398046511104):Inv (we st p d o seq).1:=by
 unfold we
 cases hp:qw p with
 | none=>exact h
 | some u=>
  simp only
  split
  .exact h
  .rename_i hd
   split
   .exact h
   .cases hu:st.lookup u with
    | none=>exact h
    | some n=>
     simp only
     split
     .exact h
     .rename_i ho
      split
      .exact h
      .rename_i hc
       cases hq:(if seq=true then pn p n.ctr else some p)with
       | none=>exact h
       | some q=>
        simp only
        split
        .exact h
        .rename_i hs
         have hqn:st.lookup q=none:=by
          cases e:st.lookup q with
          | none=>rfl
          | some x=>rw[e]at hs;exact mt rfl hs
         have hpq:qw q=some u:=by
          split at hq
          .obtain⟨_,_,e⟩:=abm hq
           rw[e];exact hp
          .cases hq;exact hp
         exact avh h hlen hu (j4 ho) hc hqn hpq z7
def al3(st:St)(p:Str)(v:Int):(wo st p v).1.length<=st.length:=by
 have hdel:∀ (s:St) q,(pd s q).length<=s.length:=fun s q=>by
  induction s with
  | nil=>simp[pd]
  | cons x s ih=>
   obtain⟨k,n⟩:=x
   unfold pd
   split
   .simp
   .simp;exact ih
 unfold wo
 repeat' split
 all_goals first | exact mR _ | (refine LA (hdel _ _) ?_;simp[wH])
def al4(h:Inv st)(hlen:st.length<=4398046511104):Inv (wo st p v).1:=by
 unfold wo
 split
 .exact h
 .rename_i hg
  cases hl:st.lookup p with
  | none=>exact h
  | some n=>
   simp only
   split
   .exact h
   .split
    .exact h
    .rename_i hk0
     cases hpp:qw p with
     | none=>exact h
     | some u=>
      simp only
      have hne:p≠[47]:=fun e=>hg (.inl e)
      obtain⟨u',m,h1,hu,ho⟩:=h.up p n hl hne
      rw[hpp]at h1;cases h1
      have hpu:=afl hpp
      have hkn:=h.kids p n hl
      have hz:kc (st.map (·.1)) p=0:=by omega
      have hkm:=h.kids u m hu
      have hcm:=h.ctr u m hu
      have hin:=ag3 hl
      have hpos:=auW hin hpp
      have hle:kc (st.map (·.1)) u<=st.length:=by unfold kc;exact LA List.countP_le_length y0
      have hb:pB m={m with kids:=m.kids - 1}:=by
       unfold pB;rw[SL.qY z7 z7]
      have hkM:((wH st u pB).map (·.1)).Nodup:=by rw[pf];exact h.keys
      have lk:∀ k,(pd (wH st u pB) p).lookup k=if k=p then none else if k=u then some (pB m)else st.lookup k:=fun k=>by
       rw[uN hkM,wu]
       by_cases e:k=p
       .rw[mc e,mc e]
       .rw[ma e,ma e]
        by_cases e2:k=u
        .subst e2;rw[mc rfl,mc rfl,hu];try rfl
        .rw[ma e2,ma e2]
      have hlM:(wH st u pB).lookup p=some n:=by rw[wu,ma hpu];exact hl
      obtain⟨a,b,k1,k2⟩:=atC hlM
      rw[pf]at k1
      have hkc:∀ k,kc (st.map (·.1)) k=kc ((pd (wH st u pB) p).map (·.1)) k+if u=k then 1 else 0:=fun k=>by
       rw[k1,k2,show a++p::b=a++([p]++b)from rfl,ahT,ahT,ahT,al2,hpp]
       simp;omega
      have cases2:∀ k x,(pd (wH st u pB) p).lookup k=some x->k≠p/\((k=u/\x=pB m)\/(k≠u/\st.lookup k=some x)):=fun k x hk=>by
       rw[lk]at hk
       by_cases e:k=p
       .rw[mc e]at hk;cases hk
       .rw[ma e]at hk
        by_cases e2:k=u
        .rw[mc e2]at hk;exact⟨e,.inl ⟨e2,(mB hk).symm⟩⟩
        .rw[ma e2]at hk;exact⟨e,.inr ⟨e2,hk⟩⟩
      have old:∀ v x,st.lookup v=some x->v≠p->∃ x',(pd (wH st u pB) p).lookup v=some x'/\x'.own=x.own:=fun v x hv hvp=>by
       rw[lk,ma hvp]
       by_cases e:v=u
       .subst e
        rw[hu]at hv;cases hv
        exact⟨_,mc rfl,rfl⟩
       .exact⟨x,by rw[ma e];exact hv,rfl⟩
      refine⟨?_,?_,fun k x hk=>?_,fun k x hk hkn=>?_,fun k x hk=>?_,fun k x hk=>?_,fun k x hk=>?_⟩
      .rw[k2]
       have:=h.keys
       rw[k1]at this
       exact List.Nodup.sublist (List.Sublist.append_left (List.sublist_cons_self _ _) _) this
      .obtain⟨n0,h0⟩:=h.root
       obtain⟨x',h1,_⟩:=old _ _ h0 (fun e=>hne e.symm)
       exact⟨x',h1⟩
      .rcases cases2 k x hk with⟨_,⟨rfl,_⟩ | ⟨_,h3⟩⟩
       .exact h.path _ m hu
       .exact h.path k x h3
      .have hkin:∃ y,st.lookup k=some y:=by
        rcases cases2 k x hk with⟨_,⟨rfl,_⟩ | ⟨_,h3⟩⟩
        .exact⟨m,hu⟩
        .exact⟨x,h3⟩
       obtain⟨y,hy⟩:=hkin
       obtain⟨w,mm,g1,g2,g3⟩:=h.up k y hy hkn
       have hwp:w≠p:=fun e=>auW (ag3 hy) (by rw[g1,e]) hz
       obtain⟨x',g4,g5⟩:=old w mm g2 hwp
       exact⟨w,x',g1,g4,by rw[g5];exact g3⟩
      .have hkc':=hkc k
       rcases cases2 k x hk with⟨_,⟨rfl,rfl⟩ | ⟨h2,h3⟩⟩
       .rw[mc rfl]at hkc'
        rw[hb];show m.kids - 1=_;omega
       .rw[ma (fun e=>h2 e.symm)]at hkc'
        have:=h.kids k x h3
        omega
      .rcases cases2 k x hk with⟨_,⟨rfl,rfl⟩ | ⟨h2,h3⟩⟩
       .rw[hb];show m.kids - 1<=m.ctr/\m.ctr<=_;omega
       .exact h.ctr k x h3
      .rcases cases2 k x hk with⟨_,⟨rfl,rfl⟩ | ⟨h2,h3⟩⟩
       .exact h.data _ m hu
       .exact h.data k x h3
def atD(st:St)(p d:Str)(v:Int):(kn st p d v).1.length=st.length:=by
 unfold kn
 repeat' split
 all_goals first | rfl | simp[wH]
def avi(h:Inv st):Inv (kn st p d v).1:=by
 unfold kn
 split
 .exact h
 .split
  .exact h
  .rename_i hd
   cases hl:st.lookup p with
   | none=>exact h
   | some n=>
    simp only
    split
    .exact h
    .have lk:∀ k x,(wH st p (ae6 d)).lookup k=some x->∃ y,st.lookup k=some y/\x.kids=y.kids/\x.ctr=y.ctr/\x.own=y.own/\x.data.length<=256:=fun k x hk=>by
      rw[wu]at hk
      by_cases e:k=p
      .subst e
       rw[mc rfl,hl]at hk
       cases hk
       exact⟨n,hl,rfl,rfl,rfl,by show d.length<=256;omega⟩
      .rw[ma e]at hk
       exact⟨x,hk,rfl,rfl,rfl,h.data k x hk⟩
     have old:∀ k y,st.lookup k=some y->∃ x,(wH st p (ae6 d)).lookup k=some x/\x.own=y.own:=fun k y hk=>by
      rw[wu]
      by_cases e:k=p
      .rw[mc e,hk];exact⟨_,rfl,rfl⟩
      .rw[ma e];exact⟨y,hk,rfl⟩
     refine⟨by rw[pf];exact h.keys,?_,fun k x hk=>?_,fun k x hk hne=>?_,fun k x hk=>?_,fun k x hk=>?_,fun k x hk=>?_⟩
     .obtain⟨n0,h0⟩:=h.root
      obtain⟨x,h1,_⟩:=old _ _ h0
      exact⟨x,h1⟩
     .obtain⟨y,h1,_⟩:=lk k x hk
      exact h.path k y h1
     .obtain⟨y,h1,_⟩:=lk k x hk
      obtain⟨u,m,g1,g2,g3⟩:=h.up k y h1 hne
      obtain⟨m',g4,g5⟩:=old u m g2
      exact⟨u,m',g1,g4,by rw[g5];exact g3⟩
     .obtain⟨y,h1,h2,_⟩:=lk k x hk
      rw[pf,h2];exact h.kids k y h1
     .obtain⟨y,h1,h2,h3,_⟩:=lk k x hk
      rw[h2,h3];exact h.ctr k y h1
     .obtain⟨y,_,_,_,_,h5⟩:=lk k x hk
      exact h5
end Zt
namespace Wi
open Go SL
variable{e n:Nat}{d l:Str}
def qH(n:Nat):Str:=if n<128 then [UInt8.ofNat n]else UInt8.ofNat (n%128+128)::qH (n / 128)
termination_by n
decreasing_by omega
def val:Str->Nat
 | []=>0
 | c::r=>c.toNat%128+128*val r
def abD:Nat->Str->Option Nat
 | 0,_=>none
 | _+1,[]=>none
 | k+1,c::r=>if c.toNat<128 then some 0 else(abD k r).map (· +1)
def num(l:Str):Nat×Nat×Int:=
 match abD 9 l with
 | none=>(0,0,if l.length<9 then 12 else 13)
 | some k=>if(0<k/\l[k]?=some 0)\/4611686018427387904<=val (l.take (k+1))then(0,0,13)else(val (l.take (k+1)),k+1,0)
def auX(c:UInt8):c.toNat<256:=c.toNat_lt
def adn(n:Nat)(h:n<256):(UInt8.ofNat n).toNat=n:=j2
def aq3{c d:UInt8}(h:c.toNat=d.toNat):c=d:=UInt8.toNat_inj.1 h
def ajJ:∀ (m:Nat) (l:Str) (k:Nat),abD m l=some k->k<m/\k<l.length/\(∀i c,i<k->l[i]?=some c->128<=c.toNat)/\∃ c,l[k]?=some c/\c.toNat<128:=by
 intro m
 induction m with
 | zero=>intro l k h;cases h
 | succ m ih=>
  intro l k h
  cases l with
  | nil=>cases h
  | cons c r=>
   unfold abD at h
   split at h
   .rename_i hc
    cases h
    exact⟨z7,y0,fun i c hi=>by omega,c,rfl,hc⟩
   .rename_i hc
    obtain⟨k',hk',rfl⟩:=nm.1 h
    obtain⟨h1,h2,h3,h4⟩:=ih r k' hk'
    refine⟨z7,j2,fun i d hi hd=>?_,j4 h4⟩
    rcases i with _ | i
    .cases hd;omega
    .exact h3 i d z7 (j4 hd)
def avj:∀ (m:Nat) (l:Str) (k:Nat) (d:UInt8),k<m->(∀i c,i<k->l[i]?=some c->128<=c.toNat)->l[k]?=some d->d.toNat<128->abD m l=some k:=by
 intro m
 induction m with
 | zero=>intro l k d h;omega
 | succ m ih=>
  intro l k d hk hall hd hsm
  cases l with
  | nil=>cases hd
  | cons c r=>
   unfold abD
   rcases k with _ | k
   .cases hd;rw[mc hsm]
   .rw[ma (by have:=hall 0 c z7 rfl;omega),ih r k d z7 (fun i e hi he=>hall (i+1) e z7 (j4 he)) (j4 hd) hsm];rfl
def ajK:∀ (m:Nat) (l:Str),(∀i c,i<m->l[i]?=some c->128<=c.toNat)->abD m l=none:=by
 intro m l h
 cases e:abD m l with
 | none=>rfl
 | some k=>
  obtain⟨h1,_,_,c,hc,h4⟩:=ajJ m l k e
  have:=h k c h1 hc
  omega
def aoP:∀ (l:Str) (k:Nat),val (l.take k)<128 ^ k:=by
 intro l
 induction l with
 | nil=>intro k;simp[val];exact Nat.pow_pos y1
 | cons c r ih=>
  intro k
  cases k with
  | zero=>simp[val]
  | succ k=>
   have:=ih k
   simp only[List.take_succ_cons,val]
   have:=LX c.toNat (show 0<128 by decide)
   rw[Nat.pow_succ]
   omega
def atF(l:Str)(c:UInt8):val (l++[c])=val l+128 ^ l.length*(c.toNat%128):=by
 induction l with
 | nil=>simp[val]
 | cons d l ih=>simp only[ng,val,ih,mz,Nat.pow_succ];rw[Nat.mul_add,<-Nat.mul_assoc,LB 128 (128 ^ l.length)];omega
def atG:∀ (m:Nat) (l:Str) (k:Nat),abD m l=some k->(k=0\/l[k]?≠some 0)->qH (val (l.take (k+1)))=l.take (k+1)/\(0<k->0<val (l.take (k+1))):=by
 intro m
 induction m with
 | zero=>intro l k h;cases h
 | succ m ih=>
  intro l k h hz
  cases l with
  | nil=>cases h
  | cons c r=>
   unfold abD at h
   split at h
   .rename_i hc
    cases h
    refine⟨?_,fun h=>by omega⟩
    simp only[List.take_succ_cons,Lm,val,Nat.mul_zero,Nat.add_zero,nN hc]
    unfold qH
    rw[mc hc]
    simp
   .rename_i hc
    obtain⟨k',hk',rfl⟩:=nm.1 h
    have hne:(k'=0\/r[k']?≠some 0)/\r[k']?≠some 0:=by
     rcases hz with h0 | h0
     .omega
     .have:r[k']?≠some 0:=by simpa using h0
      exact⟨.inr this,this⟩
    obtain⟨h1,h2⟩:=ih r k' hk' hne.1
    obtain⟨_,h3,_,d,hd,hd'⟩:=ajJ m r k' hk'
    have hpos:0<val (r.take (k'+1)):=by
     rcases nh k' with h0 | h0
     .subst h0
      cases r with
      | nil=>cases hd
      | cons e r=>
       cases hd
       simp only[List.take_succ_cons,Lm,val,Nat.mul_zero,Nat.add_zero,nN hd']
       rcases nh d.toNat with h5 | h5
       .exact mt (by rw[show d=0 from aq3 h5];try rfl) hne.2
       .exact h5
     .exact h2 h0
    have hc256:=auX c
    refine⟨?_,fun _=>?_⟩
    .simp only[List.take_succ_cons,val]
     unfold qH
     rw[ma z7,show(c.toNat%128+128*val (List.take (k'+1) r)) / 128=val (List.take (k'+1) r) by omega,h1]
     congr 1
     refine aq3 ?_
     rw[adn _ z7];omega
    .simp only[List.take_succ_cons,val];omega
def amO(n:Nat):qH n≠[]:=by unfold qH;split<;>simp
def ub:∀ (m n:Nat),n<128 ^ (m+1)->1<=(qH n).length/\(qH n).length<=m+1:=by
 intro m
 induction m with
 | zero=>intro n h;unfold qH;rw[mc (j4 h)];simp
 | succ m ih=>
  intro n h
  unfold qH
  split
  .simp
  .have:=ih (n / 128) (by rw[Nat.pow_succ]at h;exact Nat.div_lt_of_lt_mul (by rw[LB];exact h))
   simp;omega
def ar2:∀ (m n:Nat) (r:Str),n<128 ^ (m+1)->∃ k,abD (m+1) (qH n++r)=some k/\(qH n).length=k+1/\val (qH n)=n/\(0<k->(qH n)[k]?≠some 0)/\(0<n\/k=0):=by
 intro m
 induction m with
 | zero=>
  intro n r h
  have h:n<128:=by simpa using h
  unfold qH
  rw[mc h]
  refine⟨0,?_,rfl,?_,fun h=>by omega,.inr rfl⟩
  .unfold abD;rw[ng];simp only;rw[adn _ z7,mc h]
  .simp only[val];rw[adn _ z7];omega
 | succ m ih=>
  intro n r h
  by_cases hn:n<128
  .unfold qH
   rw[mc hn]
   refine⟨0,?_,rfl,?_,fun h=>by omega,.inr rfl⟩
   .unfold abD;rw[ng];simp only;rw[adn _ z7,mc hn]
   .simp only[val];rw[adn _ z7];omega
  .obtain⟨k,h1,h2,h3,h4,h5⟩:=ih (n / 128) r (by rw[Nat.pow_succ]at h;exact Nat.div_lt_of_lt_mul (by rw[LB];exact h))
   rw[qH,ma hn]
   refine⟨k+1,?_,by simp[h2],?_,fun _=>?_,.inl z7⟩
   .rw[ng]
    unfold abD
    rw[adn _ z7,ma z7,h1];try rfl
   .simp only[val];rw[h3,adn _ z7];omega
   .rw[LY]
    rcases nh k with h0 | h0
    .subst h0
     have hlt:n / 128<128\/¬ n / 128<128:=by omega
     rcases hlt with hlt | hlt
     .rw[qH,mc hlt]
      simp only[List.getElem?_cons_zero]
      intro e
      have:=mj UInt8.toNat (mB e)
      rw[adn _ z7]at this
      simp at this;omega
     .rw[qH,ma hlt]at h2
      have:=nI.2 (amO (n / 128 / 128))
      rw[mz]at h2;omega
    .exact h4 h0
def avk(h:n<4611686018427387904)(r:Str):num (qH n++r)=(n,(qH n).length,0):=by
 obtain⟨k,h1,h2,h3,h4,_⟩:=ar2 8 n r z7
 unfold num
 rw[h1]
 have e1:(qH n++r).take (k+1)=qH n:=by rw[<-h2];simp
 have e2:(qH n++r)[k]?=(qH n)[k]?:=mQ z7
 simp only[e1,e2,h3]
 rw[ma,h2]
 rintro(⟨h5,h6⟩ | h5)
 .exact h4 h5 h6
 .omega
def amP(h:num l=(n,e,0)):n<4611686018427387904/\0<e/\e<=l.length/\l.take e=qH n:=by
 unfold num at h
 cases hs:abD 9 l with
 | none=>
  rw[hs]at h
  simp only[Prod.mk.injEq]at h
  have:=h.2.2
  split at this<;>omega
 | some k=>
  rw[hs]at h
  simp only at h
  split at h
  .simp at h
  .rename_i hb
   simp only[not_or]at hb
   simp only[Prod.mk.injEq]at h
   obtain⟨rfl,rfl,_⟩:=h
   obtain⟨_,h2,_,_⟩:=ajJ 9 l k hs
   refine⟨z7,z7,z7,((atG 9 l k hs ?_).1).symm⟩
   rcases nh k with h0 | h0
   .exact .inl h0
   .exact .inr fun h=>hb.1 ⟨h0,h⟩
def ar3(h:num l=(n,e,0)):l=qH n++l.drop e:=by
 rw[<-(amP h).2.2.2,List.take_append_drop]
def avl(h:(num l).2.2≠0):(num l).1=0/\(num l).2.1=0/\((num l).2.2=12\/(num l).2.2=13):=by
 unfold num at h⊢
 cases hs:abD 9 l with
 | none=>simp only;refine⟨y0,y0,?_⟩;split<;>simp
 | some k=>
  rw[hs]at h
  simp only at h⊢
  split
  .simp
  .rename_i hb;rw[ma hb]at h;simp at h
def ar4(l:Str):(num l).2.1<=l.length/\(num l).1<4611686018427387904:=by
 by_cases h:(num l).2.2=0
 .obtain⟨h1,_,h3,_⟩:=amP (l:=l) (n:=(num l).1) (e:=(num l).2.1) (by rw[<-h])
  exact⟨h3,h1⟩
 .obtain⟨h1,h2,_⟩:=avl h
  rw[h1,h2];exact⟨Nat.zero_le _,y1⟩
def qr(x:Int):Bool:=decide (0<=x) && decide (x<=4611686018427387903)
structure Rd where
 rest:Str
 err:Int
def vR(d:Str):Str:=qH d.length++d
def rnum(r:Rd):Nat×Rd:=if r.err≠0 then(0,r)else((num r.rest).1,⟨r.rest.drop (num r.rest).2.1,(num r.rest).2.2⟩)
def rblob(r:Rd):Str×Rd:=
 if(rnum r).2.err≠0 then([],(rnum r).2)
 else if(rnum r).2.rest.length<(rnum r).1 then([],⟨r.rest,12⟩)
 else((rnum r).2.rest.take (rnum r).1,⟨(rnum r).2.rest.drop (rnum r).1,0⟩)
def aiB(h:n<4611686018427387904)(r:Str):rnum ⟨qH n++r,0⟩=(n,⟨r,0⟩):=by
 unfold rnum
 simp only[ne_eq,not_true_eq_false,if_false,avk h,List.drop_left]
def anu(h:d.length<4611686018427387904)(r:Str):rblob ⟨vR d++r,0⟩=(d,⟨r,0⟩):=by
 unfold rblob vR
 rw[nl,aiB h]
 simp
def alg{r:Rd}(h:r.err≠0):rnum r=(0,r):=by unfold rnum;rw[mc h]
def ar5{r:Rd}(h:r.err≠0):rblob r=([],r):=by unfold rblob;rw[alg h,mc h]
def aiC{r:Rd}(h:(rnum r).2.err=0):r.err=0:=np fun hn=>hn (by rw[alg hn]at h;exact h)
def ar6{r:Rd}(h:(rblob r).2.err=0):r.err=0:=np fun hn=>hn (by rw[ar5 hn]at h;exact h)
def af3{r:Rd}(h:(rnum r).2.err=0):(rnum r).1<4611686018427387904/\r.rest=qH (rnum r).1++(rnum r).2.rest:=by
 have h0:=aiC h
 unfold rnum at h⊢
 rw[ma (by simp[h0])]at h⊢
 have hn:num r.rest=((num r.rest).1,(num r.rest).2.1,0):=by rw[<-h]
 exact⟨(amP hn).1,ar3 hn⟩
def ahz{r:Rd}(h:(rblob r).2.err=0):(rblob r).1.length<4611686018427387904/\r.rest=vR (rblob r).1++(rblob r).2.rest:=by
 unfold rblob at h⊢
 by_cases h1:(rnum r).2.err=0
 .rw[ma (by simp[h1])]at h⊢
  by_cases h2:(rnum r).2.rest.length<(rnum r).1
  .rw[mc h2]at h;cases h
  .rw[ma h2]at h⊢
   obtain⟨h3,h4⟩:=af3 h1
   have hl:((rnum r).2.rest.take (rnum r).1).length=(rnum r).1:=by simp;omega
   refine⟨by simp only[hl];exact h3,?_⟩
   simp only[vR,hl]
   rw[nl,List.take_append_drop];exact h4
 .rw[mc h1]at h;exact mt h h1
def an4{r:Rd}(h:(rblob r).2.err≠0):(rblob r).1=[]:=by
 unfold rblob at h⊢
 split
 .rfl
 .split
  .rfl
  .rename_i h1 h2;rw[ma h1,ma h2]at h;exact mt rfl h
end Wi
namespace Zt
open Go SL Pa Wi
variable{ks ps:List Str}{st x:St}{a b k:Str}{p:Str×Nd}
def Srt(x:St):Prop:=x.Pairwise fun a b=>a.1<b.1
def acD(a:Str):¬ a<a:=List.lt_irrefl a
def ajL{c:Str}(h:a<b)(k:b<c):a<c:=List.lt_trans h k
def ar7(h:a<b):a<=b:=List.le_of_lt h
def ajM(h:a<=b)(hn:a≠b):a<b:=by
 rcases List.le_iff_lt_or_eq.1 h with h | h
 .exact h
 .exact mt h hn
def akj:¬ a<=b↔b<a:=List.not_le
def Srt.nodup(h:Srt x):(x.map (·.1)).Nodup:=by
 unfold List.Nodup
 rw[LJ]
 refine Pj (R:=fun(a b:Str×Nd)=>a.1<b.1) (fun{a b} (h:a.1<b.1) (e:a.1=b.1)=>acD b.1 (by rw[e]at h;exact h)) h
def qU(hk:(st.map (·.1)).Nodup){n:Nd}:st.lookup k=some n↔(k,n)∈st:=by
 induction st with
 | nil=>simp
 | cons p st ih=>
  obtain⟨p,m⟩:=p
  simp only[mF,nv]at hk
  rw[na]
  by_cases c:k=p
  .subst c
   rw[show(k == k)=true by simp]
   simp only[mp,Prod.mk.injEq,true_and]
   refine⟨fun h=> .inl (mB h).symm,fun h=>?_⟩
   rcases h with h | h
   .rw[h]
   .exact mt (mN.2 ⟨_,h,rfl⟩) hk.1
  .rw[show(k == p)=false by simpa using c]
   simp only[mp,Prod.mk.injEq,c,false_and,false_or]
   exact ih hk.2
def ae7{a b:St}(h:a.Perm b)(hk:(a.map (·.1)).Nodup)(k:Str):a.lookup k=b.lookup k:=by
 have hk':(b.map (·.1)).Nodup:=(h.map _).nodup_iff.1 hk
 cases e:a.lookup k with
 | none=>
  cases e':b.lookup k with
  | none=>rfl
  | some n=>rw[(qU hk).2 (h.mem_iff.2 ((qU hk').1 e'))]at e;cases e
 | some n=>exact((qU hk').2 (h.mem_iff.1 ((qU hk).1 e))).symm
def alh:∀ {x y:List Str},x.Pairwise (· < ·)->y.Pairwise (· < ·)->x.Perm y->x=y:=by
 intro x
 induction x with
 | nil=>intro y _ _ h;exact h.nil_eq
 | cons a x ih=>
  intro y hx hy h
  cases y with
  | nil=>exact mt h.symm.nil_eq y0
  | cons b y=>
   obtain⟨hx1,hx2⟩:=LV.1 hx
   obtain⟨hy1,hy2⟩:=LV.1 hy
   have hab:a=b:=np fun hn=>by
    have ha:a∈b::y:=h.mem_iff.1 y0
    have hb:b∈a::x:=h.mem_iff.2 y0
    rcases mp.1 ha with e | ha
    .exact hn e
    rcases mp.1 hb with e | hb
    .exact hn e.symm
    exact acD _ (ajL (hy1 a ha) (hx1 b hb))
   subst hab
   rw[ih hx2 hy2 ((List.perm_cons a).1 h)]
def amQ(h:ks.Pairwise (· <= ·))(hn:ks.Nodup):ks.Pairwise (· < ·):=by
 exact(h.and hn).imp fun{a b} h=>ajM h.1 h.2
def srt(st:St):St:=st.mergeSort fun a b=>decide (a.1<=b.1)
def zZ(st:St):(srt st).Perm st:=List.mergeSort_perm _ _
def ahU(hk:(st.map (·.1)).Nodup):Srt (srt st):=by
 have h1:(srt st).Pairwise fun a b=>decide (a.1<=b.1)=true:=List.pairwise_mergeSort (le:=fun(a b:Str×Nd)=>decide (a.1<=b.1))
  (fun a b c h k=>by simp only[mS]at *;exact List.le_trans h k) (fun a b=>by
   simp only[Bool.or_eq_true,mS]
   exact List.le_total a.1 b.1) st
 have h2:((srt st).map (·.1)).Nodup:=((zZ st).map _).nodup_iff.2 hk
 unfold List.Nodup at h2
 rw[LJ]at h2
 exact(h1.and h2).imp fun{a b} h=>ajM (j4 h.1) h.2
def aiD(hk:(st.map (·.1)).Nodup)(h:ks.Perm (st.map (·.1)))(hs:ks.Pairwise (· <= ·)):ks=(srt st).map (·.1):=by
 refine alh (amQ hs (h.nodup_iff.2 hk)) ?_ (h.trans ((zZ st).map _).symm)
 rw[LJ]
 exact ahU hk
def yw(n:Nd):Bool:=qr n.ver && qr n.ctr && qr n.own
def ahA(p:Str×Nd):Str:=vR p.1++(vR p.2.data++(qH p.2.ver.toNat++(qH p.2.ctr.toNat++qH p.2.own.toNat)))
def acQ(x:St):Str:=x.flatMap ahA
def amR(st:St):Str:=if(srt st).all (fun p=>yw p.2)then acQ (srt st)else []
def ahB(n:Nd):Nd:={n with kids:=i64.wrap (n.kids+1)}
def lay(st:St)(last p:Str)(n:Nd):Option St:=
 if parts p=none\/p<=last\/256<n.data.length\/10000000000<n.ctr\/(n.own≠0/\0<n.ctr)then none
 else if last=[]then(if p=[47]/\n.data=[]/\n.ver=0/\n.own=0 then some (st++[(p,n)])else none)
 else match qw p with
  | none=>none
  | some u=>match st.lookup u with
   | none=>none
   | some m=>if m.own≠0 then none else some (wH st u ahB++[(p,n)])
def kg(r:Rd):(Str×Nd)×Rd:=
 let a:=rblob r
 let b:=rblob a.2
 let c:=rnum b.2
 let d:=rnum c.2
 let e:=rnum d.2
 ((a.1,⟨c.1,d.1,e.1,0,b.1⟩),e.2)
def ajN:Nat->Rd->St->Str->Option St
 | 0,_,_,_=>none
 | f+1,r,st,last=>
  if r.rest=[]/\last≠[]then some st
  else if(kg r).2.err≠0 then none
  else match lay st last (kg r).1.1 (kg r).1.2 with
   | none=>none
   | some st'=>ajN f (kg r).2 st' (kg r).1.1
def dec(b:Str):Option St:=
 match ajN (b.length+1) ⟨b,0⟩ [] []with
 | none=>none
 | some st=>if st.all fun p=>decide (p.2.kids<=p.2.ctr)then some st else none
def ar8(h1:p.1.length<4611686018427387904)(h2:p.2.data.length<4611686018427387904)(h3:yw p.2=true)(r:Str):
  kg ⟨ahA p++r,0⟩=((p.1,{p.2 with kids:=0}),⟨r,0⟩):=by
 unfold yw qr at h3
 simp only[mu,mS]at h3
 obtain⟨⟨⟨v0,v1⟩,c0,c1⟩,o0,o1⟩:=h3
 unfold kg ahA
 simp only[nl]
 rw[anu h1,anu h2,aiB z7,aiB z7,aiB z7]
 simp only[LS v0,LS c0,LS o0]
def pre(a:St):St:=a.map fun p=>(p.1,{p.2 with kids:=(kc (a.map (·.1)) p.1:Nat)})
def ar9(h:a <+: b)(hn:a≠b):a<b:=by
 obtain⟨t,rfl⟩:=h
 induction a with
 | nil=>
  cases t with
  | nil=>exact mt rfl hn
  | cons c t=>exact List.nil_lt_cons c t
 | cons c a ih=>
  rw[ng,List.cons_lt_cons_iff]
  exact .inr ⟨rfl,ih fun h=>hn (by rw[ng,<-h])⟩
def anv{p u:Str}(h:qw p=some u):u<p:=by
 have hne:=afl h
 refine ar9 ?_ hne.symm
 unfold qw at h
 cases hp:parts p with
 | none=>rw[hp]at h;cases h
 | some ps=>
  rw[hp]at h
  simp only at h
  split at h
  .cases h
  .rename_i hps
   cases h
   obtain⟨hl,hg⟩:=qZ.1 hp
   rw[hl]
   have e:=List.dropLast_concat_getLast hps
   conv=>rhs;rw[<-e,acC]
   by_cases h0:ps.dropLast=[]
   .rw[h0,mc rfl]
    exact⟨ps.getLast hps,rfl⟩
   .rw[ma h0]
    exact List.prefix_append _ _
structure ajO(st:St):Prop where
 inv:Inv st
 nums:∀ k n,st.lookup k=some n->yw n=true/\(n.own≠0->n.ctr=0)
 rt:∀ n,st.lookup [47]=some n->n.data=[]/\n.ver=0/\n.own=0
def atH{a b:List Str}(h:a.Perm b)(u:Str):kc a u=kc b u:=by unfold kc;exact h.countP_eq _
def aoQ{a b:St}(h:a.Perm b)(hi:Inv a):Inv b:=by
 have hl:=ae7 h hi.keys
 refine⟨(h.map _).nodup_iff.1 hi.keys,?_,fun k n hk=>?_,fun k n hk hne=>?_,fun k n hk=>?_,fun k n hk=>?_,fun k n hk=>?_⟩
 .obtain⟨n,hn⟩:=hi.root;exact⟨n,by rw[<-hl];exact hn⟩
 .exact hi.path k n (by rw[hl];exact hk)
 .obtain⟨u,m,h1,h2,h3⟩:=hi.up k n (by rw[hl];exact hk) hne
  exact⟨u,m,h1,by rw[<-hl];exact h2,h3⟩
 .rw[hi.kids k n (by rw[hl];exact hk),atH (h.map _)]
 .exact hi.ctr k n (by rw[hl];exact hk)
 .exact hi.data k n (by rw[hl];exact hk)
def anw{a b:St}(h:a.Perm b)(hi:ajO a):ajO b:=by
 have hl:=ae7 h hi.inv.keys
 exact⟨aoQ h hi.inv,fun k n hk=>hi.nums k n (by rw[hl];exact hk),fun n hk=>hi.rt n (by rw[hl];exact hk)⟩
def aq4(a:St)(u:Str):(pre a).lookup u=(a.lookup u).map fun n=>{n with kids:=(kc (a.map (·.1)) u:Nat)}:=by
 unfold pre
 generalize a.map (·.1)=ks
 induction a with
 | nil=>rfl
 | cons p a ih=>
  obtain⟨p,m⟩:=p
  rw[mF,na,na]
  by_cases c:u=p
  .subst c
   rw[show(u == u)=true by simp];try rfl
  .rw[show(u == p)=false by simpa using c];exact ih
def ado(a:St):Str:=match a.getLast? with
 | none=>[]
 | some p=>p.1
def aq5(a:St)(p:Str×Nd):ado (a++[p])=p.1:=by unfold ado;simp
def akk{p:Str}(h:parts p=some ps):p≠[]:=fun e=>by
 obtain⟨hl,_⟩:=qZ.1 h
 obtain⟨r,hr⟩:=aki ps
 rw[e,hr]at hl;cases hl
def aqc(h:parts k=some ps):([47]:Str)<=k:=by
 obtain⟨hl,_⟩:=qZ.1 h
 obtain⟨r,hr⟩:=aki ps
 rw[hl,hr,List.cons_le_cons_iff]
 exact .inr ⟨rfl,List.nil_le _⟩
def aw7(ks:List Str)(u:Str):kc ks u<=ks.length:=by unfold kc;exact List.countP_le_length
def atI{a b:St}(hs:Srt x)(hi:ajO x)(hn:x.length<=4611686018427387904)(he:a++p::b=x):lay (pre a) (ado a) p.1 {p.2 with kids:=0}=some (pre (a++[p])):=by
 have hin:p∈x:=by rw[<-he];simp
 have hlk:=(qU hs.nodup (k:=p.1) (n:=p.2)).2 hin
 obtain⟨ps,hps⟩:=hi.inv.path _ _ hlk
 have hctr:=hi.inv.ctr _ _ hlk
 have hdata:=hi.inv.data _ _ hlk
 have hnum:=hi.nums _ _ hlk
 have hs':=hs
 rw[<-he]at hs'
 obtain⟨hsa,hsb,hab⟩:=List.pairwise_append.1 hs'
 have hall:∀ q∈a,q.1<p.1:=fun q hq=>hab q hq p y0
 have hlast:¬ p.1<=ado a:=by
  rw[akj]
  unfold ado
  cases e:a.getLast? with
  | none=>
   cases hp:p.1 with
   | nil=>exact mt hp (akk hps)
   | cons c r=>exact List.nil_lt_cons c r
  | some q=>exact hall q (List.mem_of_getLast? e)
 have hkc0:kc (a.map (·.1)) p.1=0:=np fun h=>by
  obtain⟨k,hk,hp⟩:=ar1 h
  obtain⟨q,hq,rfl⟩:=mN.1 hk
  exact acD _ (ajL (hall q hq) (anv hp))
 have hkc1:kc [p.1] p.1=0:=by
  rw[al2,ma (fun h=>afl h rfl)]
 have hnd:(a.map (·.1)).Nodup:=Srt.nodup hsa
 unfold lay
 rw[ma (by
  rintro(h | h | h | h | h)
  .rw[hps]at h;cases h
  .exact hlast h
  .simp only at h;omega
  .simp only at h;omega
  .exact mt h.2 (by have:=hnum.2 h.1;simp only;omega))]
 by_cases ha:a=[]
 .subst ha
  rw[mc (show ado []=[]from rfl)]
  have hroot:p.1=[47]:=by
   obtain⟨n0,hn0⟩:=hi.inv.root
   have h0:=(qU hs.nodup).1 hn0
   rw[<-he]at h0
   rcases mp.1 h0 with e | h0
   .rw[<-e]
   .have h1:=(LV.1 hsb).1 _ h0
    exact mt (aqc hps) (by rw[akj];exact h1)
  have hrt:=hi.rt p.2 (by rw[<-hroot];exact hlk)
  rw[mc ⟨hroot,hrt⟩]
  simp only[pre,Pe,nF,mF]
  rw[hkc1];try rfl
 .have hlne:ado a≠[]:=by
   unfold ado
   cases e:a.getLast? with
   | none=>simp at e;exact mt e ha
   | some q=>
    have hq:q∈x:=by rw[<-he];exact Ll _ (List.mem_of_getLast? e)
    obtain⟨qs,hqs⟩:=hi.inv.path _ _ ((qU hs.nodup (k:=q.1) (n:=q.2)).2 hq)
    exact akk hqs
  rw[ma hlne]
  have hne:p.1≠[47]:=fun e=>by
   obtain⟨q,hq⟩:=List.exists_mem_of_ne_nil a ha
   have h1:=hall q hq
   have hq':q∈x:=by rw[<-he];exact Ll _ hq
   obtain⟨qs,hqs⟩:=hi.inv.path _ _ ((qU hs.nodup (k:=q.1) (n:=q.2)).2 hq')
   rw[e]at h1
   exact mt (aqc hqs) (by rw[akj];exact h1)
  obtain⟨u,mm,hu,hum,hown⟩:=hi.inv.up _ _ hlk hne
  rw[hu]
  have hua:(u,mm)∈a:=by
   have h0:=(qU hs.nodup).1 hum
   rw[<-he]at h0
   rcases mv.1 h0 with h | h
   .exact h
   .rcases mp.1 h with e | h
    .rw[<-e]at hu;exact mt rfl (afl hu)
    .have h1:=(LV.1 hsb).1 _ h
     exact mt (ajL h1 (anv hu)) (acD _)
  have hul:=(qU hnd).2 hua
  simp only
  rw[aq4,hul]
  simp only[Option.map_some]
  rw[ma (j4 hown)]
  refine mj some ?_
  unfold pre
  rw[my,my,mF,Pe]
  congr 1
  .unfold wH
   rw[Lh]
   refine List.map_congr_left fun q hq=>?_
   simp only[Function.comp_apply]
   rw[ahT,al2,hu]
   by_cases e:q.1=u
   .rw[mc e,e,mc rfl]
    unfold ahB
    simp only
    have hkl:=aw7 (a.map (·.1)) u
    have hxl:a.length<x.length:=by rw[<-he];simp
    rw[mg]at hkl
    rw[qY z7 z7]
    try rfl
   .rw[ma e,ma (fun h=>e (mB h).symm)];try rfl
  .rw[mF,Pe,ahT,hkc0,hkc1];try rfl
def aqd(p:Str×Nd):ahA p≠[]:=by
 unfold ahA vR
 intro h
 simp at h
 exact amO _ h.1
def atJ(hs:Srt x)(hi:ajO x)(hn:x.length<=4611686018427387904):∀ (b a:St) (f:Nat),a++b=x->(acQ b).length<f->ajN f ⟨acQ b,0⟩ (pre a) (ado a)=some (pre x):=by
 have hlen:∀ p∈x,p.1.length<4611686018427387904/\p.2.data.length<4611686018427387904:=fun p hp=>by
  have hlk:=(qU hs.nodup (k:=p.1) (n:=p.2)).2 hp
  obtain⟨ps,hps⟩:=hi.inv.path _ _ hlk
  obtain⟨hl,hg⟩:=qZ.1 hps
  have:=(aq0 hg).2
  have:=hi.inv.data _ _ hlk
  rw[hl];omega
 intro b
 induction b with
 | nil=>
  intro a f he hf
  rw[nk]at he
  subst he
  cases f with
  | zero=>omega
  | succ f=>
   unfold ajN
   have hane:ado a≠[]:=by
    obtain⟨n0,hn0⟩:=hi.inv.root
    have h0:=(qU hs.nodup).1 hn0
    unfold ado
    cases e:a.getLast? with
    | none=>simp at e;rw[e]at h0;cases h0
    | some q=>
     obtain⟨qs,hqs⟩:=hi.inv.path _ _ ((qU hs.nodup (k:=q.1) (n:=q.2)).2 (List.mem_of_getLast? e))
     exact akk hqs
   rw[mc ⟨rfl,hane⟩]
 | cons p b ih=>
  intro a f he hf
  cases f with
  | zero=>omega
  | succ f=>
   have hp:p∈x:=by rw[<-he];simp
   have hlk:=(qU hs.nodup (k:=p.1) (n:=p.2)).2 hp
   have e1:acQ (p::b)=ahA p++acQ b:=by unfold acQ;rw[nE]
   unfold ajN
   rw[e1]
   rw[ma (by
    rintro⟨h,_⟩
    simp only[List.append_eq_nil_iff]at h
    exact aqd p h.1)]
   rw[ar8 (hlen p hp).1 (hlen p hp).2 (hi.nums _ _ hlk).1]
   simp only[ne_eq,not_true_eq_false,if_false]
   rw[atI hs hi hn he]
   simp only
   have:=ih (a++[p]) f (by rw[<-he];simp) (by
    rw[e1,mA]at hf
    have:=nI.2 (aqd p)
    omega)
   rw[aq5]at this
   exact this
def awb(hs:Srt x)(hi:Inv x):pre x=x:=by
 unfold pre
 conv=>rhs;rw[<-List.map_id x]
 refine List.map_congr_left fun p hp=>?_
 have:=hi.kids _ _ ((qU hs.nodup (k:=p.1) (n:=p.2)).2 hp)
 obtain⟨k,n⟩:=p
 simp only at this⊢
 rw[<-this];try rfl
def avm(hs:Srt x)(hi:ajO x)(hn:x.length<=4611686018427387904):dec (acQ x)=some x:=by
 unfold dec
 have:=atJ hs hi hn x [] ((acQ x).length+1) rfl z7
 rw[show ado []=[]from rfl,show pre []=[]from rfl,awb hs hi.inv]at this
 rw[this]
 simp only
 rw[mc]
 rw[mI]
 intro p hp
 have:=(hi.inv.ctr _ _ ((qU hs.nodup (k:=p.1) (n:=p.2)).2 hp)).1
 simpa using this
def aqe(hi:ajO st):amR st=acQ (srt st):=by
 unfold amR
 rw[mc]
 rw[mI]
 intro p hp
 have h3:=anw (zZ st).symm hi
 exact(h3.nums _ _ ((qU (ahU hi.inv.keys).nodup (k:=p.1) (n:=p.2)).2 hp)).1
def atK(hi:ajO st)(hn:st.length<=4611686018427387904):dec (amR st)=some (srt st):=by
 rw[aqe hi]
 exact avm (ahU hi.inv.keys) (anw (zZ st).symm hi) (by rw[(zZ st).length_eq];exact hn)
end Zt
namespace Zt
open Go SL G Pa Go.Maps Go.Sort Go.Shelf Go.RowKit
variable{B:ZB}{ro I I':AH}{tag tag':Nat->Nat}
variable{m:KV}{M b c:Nat}{Q:Sl->AH->Prop}
def aqf:∀ (st:St) (bs:List Nat),bs.length=st.length->(kv st bs).map (·.1)=st.map (·.1):=by
 intro st
 induction st with
 | nil=>intro bs h;cases bs<;>rfl
 | cons p st ih=>
  intro bs h
  cases bs with
  | nil=>simp at h
  | cons b bs=>obtain⟨p,n⟩:=p;unfold kv;rw[mF,ih bs (j4 h)];try rfl
def anx(st:St)(bs:List Nat)(h:bs.length=st.length):(kv st bs).length=st.length:=by
 have:=mj List.length (aqf st bs h)
 simpa using this
abbrev RT:ZC->Option (DataW Unit×List MemPlace):=fun _=>some (.nil,[])
def axw{w:ZB}(hm:zW tag I c b m)(hw:aqQ ro I w)(hs:SL.Sep ro I)(hnd:(m.map (·.1)).Nodup)(hl:∀ p∈m,p.1.length<=128)(hn:m.length<=4398046511104):
  ∃D:DataW Unit,w.ownsMap prog 9 RT b m.length D/\Maps.size D=m.length/\(strKeys D).Perm (m.map (·.1)):=by
 obtain⟨es,clock,hb,he,hbn⟩:=hm.obj
 have hwb:=hw b _ (by unfold SL.rd;rw[hs b _ hb];exact hb)
 have hsz:es.size=m.length:=by have:=mj List.length he;simpa using this
 have hkey:∀ (i:Nat) (h1:i<es.toList.length),∃h2:i<m.length,(es.toList[i]).key= .string (S m[i].1):=fun i h1=>by
  have h2:i<m.length:=by rw[<-hsz];simpa using h1
  refine⟨h2,?_⟩
  have h:=mj (·[i]?) he
  simp only[mh,md h1,md h2,Option.map_some]at h
  exact mj Prod.fst (mB h)
 have hko:∀ (i:Nat) (h1:i<es.toList.length) (h2:i<m.length),WideElems.rd prog 9 RT es.toList[i]=some (.string m[i].1,.nil):=fun i h1 h2=>by
  obtain⟨_,hk⟩:=hkey i h1
  have hlen:=hl _ (mJ h2)
  unfold WideElems.rd
  rw[hk]
  have:keyOf prog 9 (.string (S m[i].1))=some (.string m[i].1):=by
   unfold keyOf
   rw[u9]
   show mapKey prog 9 (.string (S m[i].1))=_
   unfold mapKey
   rw[u9]
   show(if(S m[i].1).size<=maxLen then _ else _)=_
   rw[mc (by simp only[ahO,maxLen];omega)];rfl
  rw[this];try rfl
 refine⟨.map ((es.toList.map (WideElems.rg prog 9 RT)).foldr DataW.insert []),⟨es,clock,hwb,⟨by rw[hsz];simp only[maxLen];omega,⟨hbn.lt,hbn.nd,?_⟩,?_⟩,z7,rfl⟩,?_,?_⟩
 .have:es.toList.map (·.key)=(m.map (·.1)).map fun k=>Value.string (S k):=by
   apply Pm
   .simp[hsz]
   .intro i h1 h2
    simp only[List.getElem_map]
    obtain⟨_,h⟩:=hkey i (j4 h1)
    exact h
  rw[this]
  refine List.Pairwise.map _ (fun a b hab e=>hab ?_) hnd
  simpa [abL]using e
 .intro x hx
  obtain⟨i,hi,rfl⟩:=ni hx
  obtain⟨h2,_⟩:=hkey i hi
  exact⟨_,hko i hi h2⟩
 .show((es.toList.map (WideElems.rg prog 9 RT)).foldr DataW.insert []).length=m.length
  rw[DataW.length_sorted];simp[hsz]
 .show(((es.toList.map (WideElems.rg prog 9 RT)).foldr DataW.insert []).map fun p=>strOf p.1).Perm _
  refine((WideShapes.sorted_perm _).map _).trans ?_
  rw[Lh]
  have:es.toList.map ((fun p:Lit×DataW Unit=>strOf p.1) ∘ WideElems.rg prog 9 RT)=m.map (·.1):=by
   apply Pm
   .simp[hsz]
   .intro i h1 h2
    simp only[List.getElem_map,Function.comp]
    have h3:i<es.toList.length:=by simpa using h1
    obtain⟨h4,_⟩:=hkey i h3
    unfold WideElems.rg
    rw[hko i h3 h4];try rfl
  rw[this]
def avn{Q:ZC->AH->Prop}(hQ:∀ gb tag' I',(∀R,qd R ro tag I tag' I')->Row tag' I' 0 237 ⟨some ⟨gb,0,none⟩,1,1⟩ [.map (some M)]->Q (.func (.func 196) #[] #[.pointer (some ⟨gb,0,none⟩)]) I'):
  ac3 B ro (some M) I Q:=by
 refine qc.of_calls fun w hw hsep=>?_
 refine(callsIn_wide.1 (Tryz.maps_Keys_137 (some M) w)).mono ?_
 rintro e w' ⟨he,rfl⟩
 obtain⟨N,tag',hN,hst,hrow⟩:=ahP (tag:=tag) (w':=w.alloc (.cells #[.map (some M)] 237)) 0 hw hsep (mR w.heap.size) (heap_alloc_new w _)
 exact⟨_,N,he,(Below.refl _ w).alloc (mR _) _,hN,_,rfl,hQ _ tag' _ hst (hrow _ _ _ rfl rfl (mR _) rfl)⟩
def asa{gb:Nat}(r:Nat)(hg:Row tag I 0 237 ⟨some ⟨gb,0,none⟩,1,1⟩ [.map (some b)])(hm:zW tag I c b m)(hnd:(m.map (·.1)).Nodup)(hl:∀ p∈m,p.1.length<=128)(hn:m.length<=4398046511104)
  (hQ:∀ (s:Sl) (tag':Nat->Nat) (I':AH) (ks:List Str),(∀R,qd R ro tag I tag' I')->ks.Perm (m.map (·.1))->ks.Pairwise (· <= ·)->Row tag' I' r 9 s (ks.map Pa.vS)->Q s I'):ac2 B ro (.func (.func 196) #[] #[.pointer (some ⟨gb,0,none⟩)]) I Q:=by
 refine qc.of_calls fun w hw hsep=>?_
 obtain⟨D,hown,hsz,hperm⟩:=axw hm hw hsep hnd hl hn
 have hcell:w.cell? ⟨gb,0,none⟩=some (.map (some b)):=by
  have h1:=Row.cell1 hg hsep
  unfold qa at h1
  rw[cell?_eq]
  cases hr:SL.rd ro I gb with
  | none=>simp only at h1;rw[hr]at h1;cases h1
  | some o=>simp only at h1;rw[hw gb o hr];rw[hr]at h1;exact h1
 have hlt:gb<w.heap.size:=by
  rw[cell?_eq]at hcell
  cases hh:w.heap[gb]? with
  | none=>simp only at hcell;rw[hh]at hcell;cases hcell
  | some o=>exact wV hh
 have hseq:SeqGives Fence.wide 2 prog 196 #[.pointer (some ⟨gb,0,none⟩)] encStr (fun ss=>ss.Perm (strKeys D)) (Maps.size D) w:=
  AnyZ.keys_gives (ρ:=akR) {ap2 with} Fence.wide _ trivial rfl z7 gb b m.length D w hlt hcell hown
 have hsort:=AnyZ.sorted_in arS Fence.wide 5 trivial trivial trivial trivial rfl z7 (Tryz.sorts136 _) (enters_of func195 j0 rfl) 196 #[.pointer (some ⟨gb,0,none⟩)] trivial (enters_of func196 j0 rfl) _ _ (by rw[hsz];simp only[maxLen];omega) (by rw[hsz];omega) _ hseq
 refine(callsIn_wide.1 hsort).mono ?_
 rintro e w' ⟨v,ss,he,hS,hrow,hnil,hb⟩
 have hpair:(ss.mergeSort (fun x y=>decide (x<=y))).Pairwise (· <= ·):=by
  have:=List.pairwise_mergeSort (le:=fun x y:List UInt8=>decide (x<=y)) (fun a b c h1 h2=>by simp at *;exact List.le_trans h1 h2) (fun a b=>by simp;exact List.le_total a b) ss
  simpa using this
 have hpm:(ss.mergeSort (fun x y=>decide (x<=y))).Perm (m.map (·.1)):=(List.mergeSort_perm _ _).trans (hS.trans hperm)
 have henc:∀ l:List (List UInt8),l.map encStr=l.map Pa.vS:=fun l=>rfl
 rcases hrow with⟨hlen,⟨rfl,h0⟩ | ⟨g,cap,cur,rfl,hbase,hgb,r1,r2,r3,r4⟩⟩
 .have h0':ss=[]:=nb h0
  subst h0'
  refine⟨_,fun _=>none,he,hb,ak9.none _ _,⟨none,0,0⟩,rfl,?_⟩
  rw[abK]
  exact hQ _ tag I _ (fun _=>qd.refl hsep) hpm hpair (by simpa using Row.nil r 9)
 .obtain⟨N,tag',hN,hst,hrow⟩:=ahP (tag:=tag) r hw hsep hbase hgb
  refine⟨_,N,he,hb,hN,⟨some ⟨g,0,none⟩,ss.length,cap⟩,rfl,?_⟩
  refine hQ _ tag' _ _ hst hpm hpair (hrow _ _ _ y0 (by rw[r3,mV]) r1 ?_)
  rw[mV]at r4
  rw[r4];try rfl
def aiE{r T q:Nat}{bs:List Nat}{st:St}(h:wa tag I r T M bs st)(hl:∀ p∈st,p.1.length<=128)(hn:st.length<=4398046511104)
  (hQ:∀ (s:Sl) (tag':Nat->Nat) (I':AH) (ks:List Str),(∀R,qd R ro tag I tag' I')->ks.Perm (st.map (·.1))->ks.Pairwise (· <= ·)->Row tag' I' q 9 s (ks.map Pa.vS)->Q s I'):xU B ro (some ⟨T,0,none⟩) I Q:=by
 refine ajg fun hs=>?_
 unfold acb
 refine⟨_,rfl,_,Row.cell1 h.cell hs,?_⟩
 refine avn (tag:=tag) fun gb tag1 I1 st1 r1=>?_
 have hk:=aqf st bs h.len
 refine asa q r1 (h.map.keep (st1 [])) (by rw[hk];exact h.keys) (fun p hp=>?_) (by rw[anx _ _ h.len];exact hn) fun s tag' I' ks st2 hp hs' hr=>?_
 .have:p.1∈(kv st bs).map (·.1):=mN.2 ⟨p,hp,rfl⟩
  rw[hk]at this
  obtain⟨x,hx,e⟩:=mN.1 this
  rw[<-e];exact hl x hx
 .rw[hk]at hp
  exact hQ s tag' I' ks (fun R=>(st1 R).trans (st2 R)) hp hs' hr
end Zt
namespace Zt
open Go SL G Pa
variable{B:ZB}{ro I I':AH}{tag tag':Nat->Nat}
variable{p:ZA}{bs:List Nat}{M T r x:Nat}{st:St}
def ajP{Q:Sl->Int->Int->Int->Int->Int->AH->Prop}(g:ze ro)(hr:r<64)(hr6:r≠6)(hr0:r≠0)(h:wa tag I r T M bs st)(hdl:∀ p n,st.lookup p=some n->n.data.length<=256)
  (hbad:parts (L p)=none->∀ tag' I',zK 0 ro tag I tag' I'->Q ⟨none,0,0⟩ 0 0 0 0 20 I') (hmiss:∀ ps,parts (L p)=some ps->st.lookup (L p)=none->∀ tag' I',zK 0 ro tag I tag' I'->Q ⟨none,0,0⟩ 0 0 0 0 70 I')
  (hhit:∀ n,st.lookup (L p)=some n->∀ s tag' I',zK 0 ro tag I tag' I'->Row tag' I' 6 5 s (n.data.map vU)->Q s n.ver n.ctr n.own n.kids 0 I'):yb B ro (some ⟨T,0,none⟩) p I Q:=by
 refine akz fun hs=>?_
 unfold adC
 refine qf (tag:=tag) 0 hs fun x tag1 I1 st1 r1=>?_
 have hA:=h.keep (st1 [])
 have hs1:=(st1 []).sep
 have err:∀ e:Int,(∀tag' I',zK 0 ro tag I tag' I'->Q ⟨none,0,0⟩ 0 0 0 0 e I')->stN ⟨x,0,none⟩ (fun I=> ∃(x5_4a:Int) (x5_4b:Int) (x5_4c:Int) (x5_4d:Int),qe ro I ⟨x,0,none⟩ 0 [.int .i64 x5_4a,.int .i64 x5_4b,.int .i64 x5_4c,.int .i64 x5_4d]/\Q (⟨none,0,0⟩:Sl) x5_4a x5_4b x5_4c x5_4d e I) [.int .i64 0,.int .i64 0,.int .i64 0,.int .i64 0] 0 I1:=by
  intro e he
  refine r1.stAll hs1 rfl (by simp[qg]) fun I2 st2 r2=>?_
  obtain⟨q,hq,hg⟩:=r2.ptr st2.sep y0
  cases hq
  exact⟨0,0,0,0,zx 0 fun j v hj=>by have:=hg j v hj;rwa [mV,<-ml j]at this,he tag1 I2 (((st1 []).c y0).trans (st2.c y0))⟩
 refine amN g hA hs1 (fun hb=>?_) (fun ps hps hl=>?_) (fun ps i b n hps hb hp hl=>?_)
 .rw[mc y1]
  exact err 20 (hbad hb)
 .rw[mc y1]
  exact err 70 (hmiss ps hps hl)
 .rw[ma y1]
  obtain⟨ds,hn,hd⟩:=hA.nodes i b _ hb hp
  obtain⟨ht0,hto⟩:=hn.tagOf
  refine aec b ?_
  have hs2:SL.Sep (join ro (SL.one I1 b)) (SL.del I1 b):=hs1.lent
  refine⟨_,rfl,_,rfl,n.ver,n.ctr,n.own,n.kids,zx 0 fun j v hj=>?_,ds,hn.lend hs1 (i:=4) rfl,?_⟩
  .rw[ml,<-mV j]
   have hj4:j<4:=by
    rcases mM j 4 with h' | h'
    .exact h'
    .rw[mG (j4 h')]at hj;cases hj
   refine hn.lend hs1 (i:=j) ?_
   rw[<-hj]
   rcases j with _ | _ | _ | _ | j
   .rfl
   .rfl
   .rfl
   .rfl
   .omega
  .have hd1:=hd.del (b:=b) ht0 z7
   have hx1:=r1.del (b:=b) ht0 z7
   refine acg (tag:=tag1) (hd1.read hs2) hs2 ?_ (by simp[qg]) fun s' tag2 I2 st2 r2=>?_
   .have:=hdl _ _ hl;simp;omega
   .have hx2:=hx1.keep (st2 [])
    refine hx2.stAll (st2 []).sep rfl (by simp[qg]) fun I3 st3 r3=>?_
    intro hdj
    have stB:=((st2 [0]).trans st3).back hs1 hdj hto
    have r4:=r3.back (r':=tag1 b) hdj hto
    have r5:=(r2.keep st3).back (r':=tag1 b) hdj hto
    obtain⟨q,hq,hg⟩:=r4.ptr stB.sep y0
    cases hq
    refine⟨n.ver,n.ctr,n.own,n.kids,zx 0 fun j v hj=>by have:=hg j v hj;rwa [mV,<-ml j]at this,?_⟩
    exact hhit n hl s' _ _ (((st1 []).c y0).trans (stB.c y0)) r5
def awc{s:Str}{K:ZC->AH->Prop}(h:adX B ro (S s) ⟨x,0,none⟩ I fun r I=>K (.bool r) I):aeb prog B ro (.func (.func 85) #[] #[.pointer (some ⟨x,0,none⟩)]) [.string (S s)] I K:=by
 refine⟨85,f85,#[],#[.pointer (some ⟨x,0,none⟩)],rfl,func85,j0,j0,?_⟩
 exact qc.mono h fun v τ ⟨r,e,q⟩=>e▸q
def xY(ks:List Str)(p:Str):List Str:=ks.filterMap fun k=>if qw k=some p then base k else none
def apx{q:Nat}{Q:Sl->Int->AH->Prop}(g:ze ro)(hr:r<64)(hr0:r≠0)(hq0:q≠q+1)(h:wa tag I r T M bs st)(hl:∀ p∈st,∃ps,parts p.1=some ps)(hn:st.length<=4398046511104)
  (hbad:parts (L p)=none->Q ⟨none,0,0⟩ 20 I) (hmiss:∀ ps,parts (L p)=some ps->st.lookup (L p)=none->Q ⟨none,0,0⟩ 70 I)
  (hhit:∀ n,st.lookup (L p)=some n->∀ (s:Sl) (tag':Nat->Nat) (I':AH) (ks:List Str),qd [q] ro tag I tag' I'->ks.Perm (st.map (·.1))->ks.Pairwise (· <= ·)->Row tag' I' q 9 s ((xY ks (L p)).map Pa.vS)->Q s 0 I'):aaF B ro (some ⟨T,0,none⟩) p I Q:=by
 refine ahx fun hs=>?_
 unfold aaI
 refine amN g h hs (fun hb=>?_) (fun ps hps hl'=>?_) (fun ps i b n hps hb hp hl'=>?_)
 .rw[mc y1];exact hbad hb
 .rw[mc y1];exact hmiss ps hps hl'
 .rw[ma y1]
  have h128:∀ p∈st,p.1.length<=128:=fun p hp=>by
   obtain⟨ps,e⟩:=hl p hp
   obtain⟨e1,e2⟩:=qZ.1 e
   rw[e1];exact e2.len
  refine aiE (q:=q+1) h h128 hn fun s tag2 I2 ks st2 hpm hsrt hr2=>?_
  have hln:s.len=ks.length:=by rw[hr2.len,mg]
  have hkl:ks.length=st.length:=by rw[hpm.length_eq,mg]
  suffices∀m j (so:Sl) tag3 I3,j+m=ks.length->qd [q] ro tag2 I2 tag3 I3->Row tag3 I3 (q+1) 9 s (ks.map Pa.vS)->Row tag3 I3 q 9 so ((xY (ks.take j) (L p)).map Pa.vS)->lfpD (kh B ro p s Q) (so,(j:Int)) I3 from
   this _ 0 ⟨none,0,0⟩ tag2 I2 (ml _) (qd.refl (st2 []).sep) hr2 (Row.nil q 9)
  intro m
  induction m with
  | zero=>
   intro j so tag3 I3 hj st3 hs3 hso
   refine lfpD.intro ?_
   unfold kh
   simp only
   rw[ma z7]
   unfold ym
   rw[mD z7]at hso
   exact hhit n hl' so tag3 I3 ks ((st2 _).trans st3) hpm hsrt hso
  | succ m ih=>
   intro j so tag3 I3 hj st3 hs3 hso
   have hjl:j<ks.length:=by omega
   obtain⟨pp,hpp,_,hget⟩:=Row.sget hs3 st3.sep hjl
   have htake:∀ x,xY (ks.take (j+1)) x=xY (ks.take j) x++xY [ks[j]] x:=fun x=>by
    rw[List.take_succ_eq_append_getElem hjl];unfold xY;rw[List.filterMap_append]
   have hlen:(xY (ks.take j) (L p)).length<=j:=by
    unfold xY
    refine LA (List.length_filterMap_le _ _) ?_
    simp;omega
   refine lfpD.intro ?_
   unfold kh
   simp only
   rw[mc z7]
   refine⟨pp,hpp,z7,z7,_,hget j hjl,?_⟩
   have skip:qw ks[j]≠some (L p)->vo B ro p s (j:Int) Q (lfpD (kh B ro p s Q)) so I3:=fun hne=>by
    unfold vo
    rw[Pa.inc j z7]
    refine ih (j+1) so tag3 I3 z7 st3 hs3 ?_
    rw[htake,show xY [ks[j]] (L p)=[] by simp[xY,hne],nk];exact hso
   refine afk g (fun hnone=>?_) (fun u hu=>?_)
   .rw[ma y0]
    exact skip (by rw[L_S]at hnone;rw[hnone];simp)
   .rw[L_S]at hu
    by_cases hup:u=L p
    .rw[mc ⟨rfl,by rw[hup,S_L]⟩]
     have hbase:∃ x,base ks[j]=some x:=by
      unfold qw at hu
      unfold base
      cases hq:parts ks[j]with
      | none=>rw[hq]at hu;cases hu
      | some qs=>
       rw[hq]at hu
       simp only at hu⊢
       split at hu
       .cases hu
       .rename_i hne
        exact⟨_,List.getLast?_eq_some_getLast hne⟩
     obtain⟨x,hx⟩:=hbase
     refine au9 g (fun hnone=>by rw[L_S,hx]at hnone;cases hnone) (fun y hy=>?_)
     rw[L_S,hx]at hy
     cases hy
     refine qf (tag:=tag3) 0 st3.sep fun c tag4 I4 st4 r4=>?_
     refine abr (hso.keep (st4 [])) (st4 []).sep t25 ty9 rfl rfl (Row.cell1 r4 (st4 []).sep) rfl (by rw[mg];omega) y1 fun s' tag5 I5 st5 r5=>?_
     refine⟨s',rfl,?_⟩
     unfold vo
     rw[Pa.inc j z7]
     refine ih (j+1) s' tag5 I5 z7 (st3.trans ((st4 _).trans st5)) ((hs3.keep (st4 [])).keep st5) ?_
     rw[htake,show xY [ks[j]] (L p)=[x] by simp[xY,hu,hup,hx],my]
     exact r5
    .rw[ma (fun h'=>hup (by rw[<-h'.2,L_S]))]
     exact skip (by rw[hu];intro h';exact hup (mB h'))
end Zt
namespace G
open Go SL
variable{B:ZB}{ro I:AH}
def agA(B:ZB)(ro:AH)(a0:Sl)(I:AH)(Q:Sl->AH->Prop):=
 nw ro I (.cells #[Sl.v a0] 24) fun u0 I=>
 jo B ro (⟨some ⟨u0,0,none⟩,1,1⟩:Sl) I fun u1 I=>
 Q u1 I
def an5{a0 Q}(h:Sep ro I->agA B ro a0 I Q):aef B ro a0 I Q:=by
 refine zb h func16 ntmps16 fun h=>?_;unfold agA at h;refine zw ?_;refine zA (wj (vs:=[(0,Sl.v a0)]) (cs:= #[Sl.v a0]) rfl nW wg y1 rfl rfl) h fun u0 h=>?_;refine zc func50 h ?_;rintro v I ⟨u1,rfl,h⟩;exact zr h
def agB(B:ZB)(ro:AH)(a0 a1:Sl)(I:AH)(Q:Bool->AH->Prop):=
 awp prog ro (convert 24 9 (Sl.v a0)) (fun v I=>
 (∃(u0:ZA),v= .string u0/\
  awp prog ro (convert 24 9 (Sl.v a1)) (fun v I=>
  (∃(u1:ZA),v= .string u1/\
   Q (decide (u0=u1)) I)) I)) I
def an6{a0 a1 Q}(h:Sep ro I->agB B ro a0 a1 I Q):ago B ro a0 a1 I Q:=by
 refine zb h func18 ntmps18 fun h=>?_;unfold agB at h;refine zw ?_;refine zl (ake rfl rfl (qk _ h ?_))
 rintro v I ⟨u0,rfl,h⟩;refine zw ?_;refine zl (ake rfl rfl (qk _ h ?_))
 rintro v I ⟨u1,rfl,h⟩;exact zr h
def abn(B:ZB)(ro:AH)(Q:Sl->AH->Prop)(u0:Sl)(I:AH):=
 Q u0 I
def uA(B:ZB)(ro:AH)(a0:Sl)(Q:Sl->AH->Prop):(Sl×Int)->AH->((Sl×Int)->AH->Prop)->Prop:=fun⟨u0,u1⟩ I Y4=>
 if u1<(a0.len:Int)then
 ∃p2,a0.a=some p2/\(0:Int)<=u1/\u1<(a0.len:Int)/\
 ∃u3,qa ro I (p2.add (Int.toNat u1*1))=some (Sl.v u3)/\
 awp prog ro (Builtin.append_ #[24,24] 24 #[Sl.v u0,Sl.v u3]) (fun v I=> ∃(u4:Sl),v=Sl.v u4/\
  Y4 (u4,i64.wrap (u1+1)) I) I
 else
 abn B ro Q u0 I
def aep(B:ZB)(ro:AH)(a0:Sl)(I:AH)(Q:Sl->AH->Prop):=
 nw ro I (.cells #[] 5) fun u0 I=>
 lfpD (uA B ro a0 Q) ((⟨some ⟨u0,0,none⟩,0,0⟩:Sl),0) I
def aje{a0 Q}(h:Sep ro I->aep B ro a0 I Q):jo B ro a0 I Q:=by
 refine zb h func50 ntmps50 fun h=>?_;unfold aep at h;refine zw ?_;refine zAp (wj (vs:=[]) (cs:= #[]) rfl mn ty5 y1 rfl rfl) h fun u0 h=>?_;refine AW.seqJ (fun fr I=> ∃(u1:Sl),qo [(3,Sl.v u1)] fr/\abn B ro Q u1 I) ?_ ?_
 .rintro fr I ⟨u1,hl,h⟩;refine AW.weaken ?_ hl (HLe.refl _)
  unfold abn at h;exact zr h
 refine zw ?_;refine qi.loop (fr':=[(0,Sl.v a0),(3,Sl.v (⟨some ⟨u0,0,none⟩,0,0⟩:Sl)),(4,.int .i64 0)]) ?_ FL
 refine h (fun⟨u2,u3⟩ I=>qi _ _ _ _ _ _ [(0,Sl.v a0),(3,Sl.v u2),(4,.int .i64 u3)] I) ?_
 rintro⟨u2,u3⟩ I Y4 hY4 h
 show AW _ _ _ _ _ _ _ _
 unfold uA at h;dsimp only at h;refine AW.seq ?_;refine zw ?_;refine zm (qC rfl rfl nW rfl rfl) ?_;refine zi h (fun h=>?_) fun h=>?_
 rotate_left
 .refine AW.exit ?_;refine zw ?_;refine qX ?_
  refine zw ?_;exact⟨_,FL,h⟩
 refine zw ?_;refine AW.seq ?_;refine zw ?_;obtain⟨p4,ha,h0,h1,h⟩:=h
 refine zm (wO rfl nW wg (ixL rfl ha) rfl h0 h1) ?_;refine zL mn h fun u5 h=>?_;refine zl (vZ (s:=Builtin.append_ #[24,24] 24 #[Sl.v u2,Sl.v u5]) rfl rfl (fun _=>rfl) (qk _ h ?_))
 rintro v I ⟨u6,rfl,h⟩;refine zw ?_;refine qi.head (fr':=[(0,Sl.v a0),(3,Sl.v u6),(4,.int .i64 (i64.wrap (u3+1)))]) ?_ FL
 exact hY4 _ _ h
def agC(B:ZB)(ro:AH)(a0:Sl)(I:AH)(Q:Sl->AH->Prop):=
 yk B ro (a0.len:Int) I fun u0 I=>
 nw ro I (.cells #[Sl.v u0,Sl.v a0] 24) fun u1 I=>
 jo B ro (⟨some ⟨u1,0,none⟩,2,2⟩:Sl) I fun u2 I=>
 Q u2 I
def an7{a0 Q}(h:Sep ro I->agC B ro a0 I Q):aaB B ro a0 I Q:=by
 refine zb h func51 ntmps51 fun h=>?_;unfold agC at h;refine zw ?_;refine zm (qC rfl rfl mn rfl rfl) ?_;refine zC func52 h fun u0 I h=>?_;refine zA (wj (vs:=[(0,Sl.v u0),(1,Sl.v a0)]) (cs:= #[Sl.v u0,Sl.v a0]) rfl nW wg y1 rfl rfl) h fun u1 h=>?_;refine zc func50 h ?_;rintro v I ⟨u2,rfl,h⟩;exact zr h
def ach(B:ZB)(ro:AH)(Q:Sl->AH->Prop)(u0:Int)(u1:Sl)(I:AH):=
 nw ro I (.cells #[.int .u8 (IntKind.u8.wrap u0)] 5) fun u2 I=>
 awp prog ro (Builtin.append_ #[24,24] 24 #[Sl.v u1,Sl.v (⟨some ⟨u2,0,none⟩,1,1⟩:Sl)]) (fun v I=> ∃(u3:Sl),v=Sl.v u3/\
 Q u3 I) I
def aci(B:ZB)(ro:AH)(Q:Sl->AH->Prop):(Int×Sl)->AH->((Int×Sl)->AH->Prop)->Prop:=fun⟨u0,u1⟩ I Y7=>
 if 128<=u0 then
 nw ro I (.cells #[.int .u8 (IntKind.u8.wrap (i64.wrap (128+(Int.tmod u0 128))))] 5) fun u2 I=>
 awp prog ro (Builtin.append_ #[24,24] 24 #[Sl.v u1,Sl.v (⟨some ⟨u2,0,none⟩,1,1⟩:Sl)]) (fun v I=> ∃(u3:Sl),v=Sl.v u3/\
  Y7 (i64.wrap (Int.tdiv u0 128),u3) I) I
 else
 ach B ro Q u0 u1 I
def ahC(B:ZB)(ro:AH)(a0:Int)(I:AH)(Q:Sl->AH->Prop):=
 nw ro I (.cells #[] 5) fun u0 I=>
 lfpD (aci B ro Q) (a0,(⟨some ⟨u0,0,none⟩,0,0⟩:Sl)) I
def aoR{a0 Q}(h:Sep ro I->ahC B ro a0 I Q):yk B ro a0 I Q:=by
 refine zb h func52 ntmps52 fun h=>?_;unfold ahC at h;refine zw ?_;refine zAp (wj (vs:=[]) (cs:= #[]) rfl mn ty5 y1 rfl rfl) h fun u0 h=>?_;refine AW.seqJ (fun fr I=> ∃(u1:Int) (u2:Sl),qo [(0,.int .i64 u1),(3,Sl.v u2)] fr/\ach B ro Q u1 u2 I) ?_ ?_
 .rintro fr I ⟨u1,u2,hl,h⟩;refine AW.weaken ?_ hl (HLe.refl _)
  unfold ach at h;refine zw ?_;refine zm (alM rfl rfl mf La) ?_;refine zA (wj (vs:=[(0,.int .u8 (IntKind.u8.wrap u1))]) (cs:= #[.int .u8 (IntKind.u8.wrap u1)]) rfl mn ty5 y1 rfl rfl) h fun u3 h=>?_;refine zl (vZ (s:=Builtin.append_ #[24,24] 24 #[Sl.v u2,Sl.v (⟨some ⟨u3,0,none⟩,1,1⟩:Sl)]) rfl rfl (fun _=>rfl) (qk _ h ?_))
  rintro v I ⟨u4,rfl,h⟩;exact zr h
 refine zw ?_;refine qi.loop (fr':=[(0,.int .i64 a0),(3,Sl.v (⟨some ⟨u0,0,none⟩,0,0⟩:Sl))]) ?_ FL
 refine h (fun⟨u5,u6⟩ I=>qi _ _ _ _ _ _ [(0,.int .i64 u5),(3,Sl.v u6)] I) ?_
 rintro⟨u5,u6⟩ I Y7 hY7 h
 show AW _ _ _ _ _ _ _ _
 unfold aci at h;dsimp only at h;refine AW.seq ?_;refine zi h (fun h=>?_) fun h=>?_
 rotate_left
 .refine AW.exit ?_;refine zw ?_;refine qX ?_
  refine zw ?_;exact⟨_,_,FL,h⟩
 refine zw ?_;refine zm (awD rfl rfl rfl y1) ?_;refine zw ?_;refine zm (alM rfl rfl mf La) ?_;refine zA (wj (vs:=[(0,.int .u8 (IntKind.u8.wrap (i64.wrap (128+(Int.tmod u5 128)))))]) (cs:= #[.int .u8 (IntKind.u8.wrap (i64.wrap (128+(Int.tmod u5 128))))]) rfl mn ty5 y1 rfl rfl) h fun u7 h=>?_;refine zl (vZ (s:=Builtin.append_ #[24,24] 24 #[Sl.v u6,Sl.v (⟨some ⟨u7,0,none⟩,1,1⟩:Sl)]) rfl rfl (fun _=>rfl) (qk _ h ?_))
 rintro v I ⟨u8,rfl,h⟩;refine zw ?_;refine zm (auL rfl rfl rfl y1) ?_;refine zw ?_;refine qi.head (fr':=[(0,.int .i64 (i64.wrap (Int.tdiv u5 128))),(3,Sl.v u8)]) ?_ FL
 exact hY7 _ _ h
def adF(B:ZB)(ro:AH)(a0:Sl)(I:AH)(Q:Sl->AH->Prop):=
 ((0:Int)<=(a0.len:Int)/\(a0.len:Int)<=(a0.len:Int)/\((a0.len:Int):Int)<=281474976710656/\8*((a0.len:Int):Int)<=281474976710656)/\
 nw ro I (.cells (aaV (.int .i64 0) (Int.toNat (a0.len:Int)*1)) 3) fun u0 I=>
 awp prog ro (Builtin.copy_ #[55,55] 3 #[Sl.v (⟨some ⟨u0,0,none⟩,Int.toNat (a0.len:Int),Int.toNat (a0.len:Int)⟩:Sl),Sl.v a0]) (fun v I=> ∃(u1:Int),v= .int .i64 u1/\
 Q (⟨some ⟨u0,0,none⟩,Int.toNat (a0.len:Int),Int.toNat (a0.len:Int)⟩:Sl) I) I
def akC{a0 Q}(h:Sep ro I->adF B ro a0 I Q):adu B ro a0 I Q:=by
 refine zb h func76 ntmps76 fun h=>?_;unfold adF at h;refine zw ?_;refine zm (qC rfl rfl mO rfl rfl) ?_;obtain⟨⟨h0,h1,h2,h3⟩,h⟩:=h
 refine zAp (auN rfl mO ty3 rfl rfl h0 h1 h2 h3) h fun u0 h=>?_;refine zl (vZ (s:=Builtin.copy_ #[55,55] 3 #[Sl.v (⟨some ⟨u0,0,none⟩,Int.toNat (a0.len:Int),Int.toNat (a0.len:Int)⟩:Sl),Sl.v a0]) rfl rfl (fun _=>rfl) (qk _ h ?_))
 rintro v I ⟨u1,rfl,h⟩;exact zr h
def ahD(B:ZB)(ro:AH)(a0:Int)(I:AH)(Q:Bool->AH->Prop):=
 Q ((decide (a0<0)) || (decide (4611686018427387903<a0))) I
def aoS{a0 Q}(h:Sep ro I->ahD B ro a0 I Q):akQ B ro a0 I Q:=by
 refine zb h func118 ntmps118 fun h=>?_;unfold ahD at h;refine zw ?_;refine wY 3 (decide (a0<0)) [(8,.bool ((decide (a0<0)) || (decide (4611686018427387903<a0))))] ?_ ?_ ?_
 .intro e2 hk2
  refine zv e2 ?_;exact hk2 _ (Fe e2)
 .intro e2 hk2
  refine zv e2 ?_;exact hk2 _ (Fe e2)
 intro fr hl
 refine Lfr hl ?_
 exact zr h
end G
namespace Zt
open Go SL G Pa
variable{B:ZB}{ro I I':AH}{tag tag':Nat->Nat}
def adZ{ψ:AH}(g:ze ro):ze (join ro ψ):=by
 obtain⟨m,o,h1,h2⟩:=g.maxlen
 exact⟨⟨m,o,vJ h1,h2⟩,fun w hw=>g.tab w fun b o hb=>hw b o (vJ hb)⟩
def copy_ok{s:Sl}{l:List Value}{Q:Sl->AH->Prop}(h:SL.qJ ro I s l)(hs:SL.Sep ro I)(hl:l.length<=140737488355328)(hv:∀ v∈l,qg v=true)(hQ:∀ s' tag' I',(∀R,qd R ro tag I tag' I')->Row tag' I' 6 5 s' l->Q s' I'):aef B ro s I Q:=by
 refine an5 fun _=>?_
 unfold agA
 refine qf (tag:=tag) 0 hs fun b tag1 I1 st1 r1=>?_
 refine aje fun _=>?_
 unfold aep
 refine qf (tag:=tag1) 6 (st1 []).sep fun c tag2 I2 st2 r2=>?_
 have r1':=r1.keep (st2 [])
 have h2:SL.qJ ro I2 s l:=(h.step (st1 [])).step (st2 [])
 refine lfpD.intro ?_
 unfold uA
 simp only
 rw[mc y1]
 obtain⟨p,hp,hg⟩:=r1'.ptr (st2 []).sep y0
 cases hp
 refine⟨_,rfl,y1,y1,s,hg 0 _ rfl,?_⟩
 refine jm r2 (st2 []).sep h2 u30 ty5 rfl hv j2 y1 fun s' tag3 I3 st3 r3=>?_
 refine⟨s',rfl,?_⟩
 rw[show i64.wrap (0+1)=1 from by decide]
 refine lfpD.intro ?_
 show(if(1:Int)<((1:Nat):Int)then _ else _)
 rw[ma y1]
 unfold abn
 exact hQ s' tag3 I3 (fun R=>(st1 R).trans ((st2 R).trans (st3 R (.inl rfl)))) r3
end Zt
namespace Zt
open Go SL Pa Wi
def ahE(st:St)(p d:Str)(o:Int)(seq:Bool):(∃e,e≠0/\we st p d o seq=(st,[],e))\/
  ∃q u n,we st p d o seq=(wH (st++[(q,⟨0,0,o,0,d⟩)]) u jL,q,0)/\st.lookup u=some n/\n.own=0/\¬ 9999999999<n.ctr/\st.lookup q=none/\qw q=some u/\d.length<=256/\0<=o/\o<=4611686018427387903:=by
 unfold we
 cases hp:qw p with
 | none=>exact .inl ⟨20,y1,rfl⟩
 | some u=>
  simp only
  by_cases h1:256<d.length
  .rw[mc h1];exact .inl ⟨75,y1,rfl⟩
  rw[ma h1]
  by_cases h2:o<0\/4611686018427387903<o
  .rw[mc h2];exact .inl ⟨10,y1,rfl⟩
  rw[ma h2]
  cases hn:st.lookup u with
  | none=>exact .inl ⟨70,y1,rfl⟩
  | some n=>
   simp only
   by_cases h3:n.own≠0
   .rw[mc h3];exact .inl ⟨74,y1,rfl⟩
   rw[ma h3]
   by_cases h4:9999999999<n.ctr
   .rw[mc h4];exact .inl ⟨76,y1,rfl⟩
   rw[ma h4]
   have fin:∀ q,qw q=some u->(∃e,e≠0/\(if(st.lookup q).isSome=true then(st,([]:Str),(71:Int))else(wH (st++[(q,⟨0,0,o,0,d⟩)]) u jL,q,0))=(st,[],e))\/
     ∃q' u' n',(if(st.lookup q).isSome=true then(st,([]:Str),(71:Int))else(wH (st++[(q,⟨0,0,o,0,d⟩)]) u jL,q,0))=(wH (st++[(q',⟨0,0,o,0,d⟩)]) u' jL,q',0)/\st.lookup u'=some n'/\n'.own=0/\¬ 9999999999<n'.ctr/\st.lookup q'=none/\qw q'=some u'/\d.length<=256/\0<=o/\o<=4611686018427387903:=fun q hq=>by
    by_cases h5:(st.lookup q).isSome=true
    .rw[mc h5];exact .inl ⟨71,y1,rfl⟩
    .rw[ma h5]
     exact .inr ⟨q,u,n,rfl,hn,j4 h3,h4,(by
      cases e:st.lookup q with
      | none=>rfl
      | some y=>rw[e]at h5;exact mt rfl h5),hq,z7,z7,z7⟩
   by_cases hs:seq=true
   .rw[mc hs]
    cases hsf:pn p n.ctr with
    | none=>exact .inl ⟨20,y1,rfl⟩
    | some q=>
     obtain⟨ps,_,hpq⟩:=abm hsf
     exact fin q (by rw[hpq,hp])
   .rw[ma hs]
    exact fin p hp
def ac9(st:St)(p:Str)(v:Int):(∃e,e≠0/\wo st p v=(st,e))\/
  ∃n u,wo st p v=(pd (wH st u pB) p,0)/\st.lookup p=some n/\p≠[47]/\qw p=some u/\¬ 0<n.kids:=by
 unfold wo
 by_cases h0:p=[47]\/parts p=none
 .rw[mc h0];exact .inl ⟨20,y1,rfl⟩
 rw[ma h0]
 cases hn:st.lookup p with
 | none=>exact .inl ⟨70,y1,rfl⟩
 | some n=>
  simp only
  by_cases h1:v≠ -1/\v≠n.ver
  .rw[mc h1];exact .inl ⟨72,y1,rfl⟩
  rw[ma h1]
  by_cases h2:0<n.kids
  .rw[mc h2];exact .inl ⟨73,y1,rfl⟩
  rw[ma h2]
  simp only[not_or]at h0
  obtain⟨ps,hps⟩:∃ ps,parts p=some ps:=by
   cases e:parts p with
   | none=>exact mt e h0.2
   | some ps=>exact⟨ps,rfl⟩
  obtain⟨u,hu⟩:=akU hps h0.1
  rw[hu]
  exact .inr ⟨n,u,rfl,rfl,h0.1,rfl,h2⟩
def ajQ(st:St)(p d:Str)(v:Int):(∃e,e≠0/\kn st p d v=(st,0,e))\/
  ∃n,kn st p d v=(wH st p (ae6 d),i64.wrap (n.ver+1),0)/\st.lookup p=some n/\p≠[47]/\d.length<=256:=by
 unfold kn
 by_cases h0:p=[47]\/parts p=none
 .rw[mc h0];exact .inl ⟨20,y1,rfl⟩
 rw[ma h0]
 by_cases h1:256<d.length
 .rw[mc h1];exact .inl ⟨75,y1,rfl⟩
 rw[ma h1]
 cases hn:st.lookup p with
 | none=>exact .inl ⟨70,y1,rfl⟩
 | some n=>
  simp only
  by_cases h2:v≠ -1/\v≠n.ver
  .rw[mc h2];exact .inl ⟨72,y1,rfl⟩
  rw[ma h2]
  simp only[not_or]at h0
  exact .inr ⟨n,rfl,rfl,h0.1,z7⟩
structure qQ(b:Nat)(st:St):Prop where
 inv:Inv st
 ver:∀ k n,st.lookup k=some n->0<=n.ver/\n.ver<=b
 own:∀ k n,st.lookup k=some n->0<=n.own/\n.own<=4611686018427387903/\(n.own≠0->n.ctr=0)
 rt:∀ n,st.lookup [47]=some n->n.data=[]/\n.ver=0/\n.own=0
 len:st.length<=b+1
def qQ.mono{b c:Nat}{st:St}(h:qQ b st)(hc:b<=c):qQ c st:=
 ⟨h.inv,fun k n hk=>by have:=h.ver k n hk;omega,h.own,h.rt,by have:=h.len;omega⟩
def Inv.ctr0{st:St}(h:Inv st){k:Str}{n:Nd}(hk:st.lookup k=some n):0<=n.ctr:=by
 have h1:=h.kids k n hk
 have h2:=(h.ctr k n hk).1
 omega
def qQ.inv3{b:Nat}{st:St}(h:qQ b st)(hb:b<=4611686018427387903):ajO st:=by
 refine⟨h.inv,fun k n hk=>⟨?_,(h.own k n hk).2.2⟩,h.rt⟩
 have h1:=h.ver k n hk
 have h2:=h.own k n hk
 have h3:=h.inv.ctr k n hk
 have h4:=h.inv.ctr0 hk
 unfold yw qr
 simp only[mu,mS]
 omega
def atL:qQ 0 St.new:=by
 have hl:∀ k n,St.new.lookup k=some n->n=⟨0,0,0,0,[]⟩:=fun k n h=>by
  unfold St.new at h
  rw[na]at h
  split at h
  .exact(mB h).symm
  .cases h
 refine⟨avf,fun k n h=>?_,fun k n h=>?_,fun n h=>?_,y1⟩
 .rw[hl k n h];decide
 .rw[hl k n h];decide
 .rw[hl _ n h];exact⟨rfl,rfl,rfl⟩
def akV{b:Nat}{st:St}{p d:Str}{o:Int}{seq:Bool}(h:qQ b st)(hb:b<=4398046511103):qQ (b+1) (we st p d o seq).1:=by
 have hi:=aq2 (p:=p) (d:=d) (o:=o) (seq:=seq) h.inv (by have:=h.len;omega)
 have hlen:=aq1 st p d o seq
 rcases ahE st p d o seq with⟨e,_,he⟩ | ⟨q,u,n,he,hu,hown,hctr,hq,hpq,hd,ho1,ho2⟩
 .rw[he];exact h.mono z7
 .rw[he]at hi hlen⊢
  simp only at hi hlen⊢
  have hl:∀ k m,(wH (st++[(q,⟨0,0,o,0,d⟩)]) u jL).lookup k=some m->(∃m',(st.lookup k=some m'\/(k=q/\m'=⟨0,0,o,0,d⟩))/\(m=m'\/(k=u/\m=jL m'))):=fun k m hk=>by
   rw[wu,jv]at hk
   have base:∀ x,(match st.lookup k with | some m=>some m | none=>if k=q then some (⟨0,0,o,0,d⟩:Nd)else none)=some x->st.lookup k=some x\/(k=q/\x=⟨0,0,o,0,d⟩):=fun x hx=>by
    cases e:st.lookup k with
    | some y=>rw[e]at hx;exact .inl hx
    | none=>
     rw[e]at hx
     simp only at hx
     split at hx
     .rename_i hkq;exact .inr ⟨hkq,(mB hx).symm⟩
     .cases hx
   split at hk
   .rename_i hku
    obtain⟨m',h1,h2⟩:=nm.1 hk
    exact⟨m',base m' h1,.inr ⟨hku,h2.symm⟩⟩
   .exact⟨m,base m hk,.inl rfl⟩
  refine⟨hi,fun k m hk=>?_,fun k m hk=>?_,fun m hk=>?_,by have:=h.len;omega⟩
  .obtain⟨m',h1,h2⟩:=hl k m hk
   have h3:0<=m'.ver/\m'.ver<=(b+1:Nat):=by
    rcases h1 with h1 | ⟨_,rfl⟩
    .have:=h.ver k m' h1;omega
    .simp only;omega
   rcases h2 with rfl | ⟨_,rfl⟩
   .exact h3
   .exact h3
  .obtain⟨m',h1,h2⟩:=hl k m hk
   rcases h2 with rfl | ⟨hku,rfl⟩
   .rcases h1 with h1 | ⟨_,rfl⟩
    .exact h.own k m h1
    .exact⟨ho1,ho2,fun _=>rfl⟩
   .rcases h1 with h1 | ⟨hkq,_⟩
    .rw[hku,hu]at h1
     obtain rfl:=mB h1
     exact⟨by show 0<=n.own;omega,by show n.own<=_;omega,fun hn=>mt hown hn⟩
    .rw[hkq]at hku
     rw[hku]at hq
     rw[hq]at hu;cases hu
  .obtain⟨m',h1,h2⟩:=hl _ m hk
   have h3:m'.data=[]/\m'.ver=0/\m'.own=0:=by
    rcases h1 with h1 | ⟨hkq,_⟩
    .exact h.rt m' h1
    .rw[<-hkq,ahy]at hpq;cases hpq
   rcases h2 with rfl | ⟨_,rfl⟩
   .exact h3
   .exact h3
def akW{b:Nat}{st:St}{p:Str}{v:Int}(h:qQ b st)(hb:b<=4398046511103):qQ (b+1) (wo st p v).1:=by
 have hi:=al4 (p:=p) (v:=v) h.inv (by have:=h.len;omega)
 have hlen:=al3 st p v
 rcases ac9 st p v with⟨e,_,he⟩ | ⟨n,u,he,hn,hne,hu,hk⟩
 .rw[he];exact h.mono z7
 .rw[he]at hi hlen⊢
  simp only at hi hlen⊢
  have hnd:((wH st u pB).map (·.1)).Nodup:=by rw[pf];exact h.inv.keys
  have hl:∀ k m,(pd (wH st u pB) p).lookup k=some m->∃ m',st.lookup k=some m'/\(m=m'\/m=pB m'):=fun k m hk=>by
   rw[uN hnd]at hk
   split at hk
   .cases hk
   .rw[wu]at hk
    split at hk
    .obtain⟨m',h1,h2⟩:=nm.1 hk
     exact⟨m',h1,.inr h2.symm⟩
    .exact⟨m,hk,.inl rfl⟩
  refine⟨hi,fun k m hk=>?_,fun k m hk=>?_,fun m hk=>?_,by have:=h.len;omega⟩
  .obtain⟨m',h1,h2⟩:=hl k m hk
   have:=h.ver k m' h1
   rcases h2 with rfl | rfl
   .omega
   .show 0<=m'.ver/\m'.ver<=_;omega
  .obtain⟨m',h1,h2⟩:=hl k m hk
   have:=h.own k m' h1
   rcases h2 with rfl | rfl
   .exact this
   .exact this
  .obtain⟨m',h1,h2⟩:=hl _ m hk
   have:=h.rt m' h1
   rcases h2 with rfl | rfl
   .exact this
   .exact this
def atM{b:Nat}{st:St}{p d:Str}{v:Int}(h:qQ b st)(hb:b<=4398046511103):qQ (b+1) (kn st p d v).1:=by
 have hi:=avi (p:=p) (d:=d) (v:=v) h.inv
 have hlen:=atD st p d v
 rcases ajQ st p d v with⟨e,_,he⟩ | ⟨n,he,hn,hne,hd⟩
 .rw[he];exact h.mono z7
 .rw[he]at hi hlen⊢
  simp only at hi hlen⊢
  have hl:∀ k m,(wH st p (ae6 d)).lookup k=some m->∃ m',st.lookup k=some m'/\(m=m'\/(k=p/\m=ae6 d m')):=fun k m hk=>by
   rw[wu]at hk
   split at hk
   .rename_i hkp
    obtain⟨m',h1,h2⟩:=nm.1 hk
    exact⟨m',h1,.inr ⟨hkp,h2.symm⟩⟩
   .exact⟨m,hk,.inl rfl⟩
  refine⟨hi,fun k m hk=>?_,fun k m hk=>?_,fun m hk=>?_,by have:=h.len;omega⟩
  .obtain⟨m',h1,h2⟩:=hl k m hk
   have:=h.ver k m' h1
   rcases h2 with rfl | ⟨_,rfl⟩
   .omega
   .show 0<=i64.wrap (m'.ver+1)/\i64.wrap (m'.ver+1)<=_
    rw[qY z7 z7];omega
  .obtain⟨m',h1,h2⟩:=hl k m hk
   have:=h.own k m' h1
   rcases h2 with rfl | ⟨_,rfl⟩
   .exact this
   .exact this
  .obtain⟨m',h1,h2⟩:=hl _ m hk
   rcases h2 with rfl | ⟨hkp,_⟩
   .exact h.rt m h1
   .exact mt hkp.symm hne
def Inv.small{st:St}(h:Inv st):∀ p∈st,p.1.length<=128/\p.2.data.length<=256:=fun p hp=>by
 have hl:=(qU h.keys (k:=p.1) (n:=p.2)).2 hp
 obtain⟨ps,hps⟩:=h.path _ _ hl
 obtain⟨e,hg⟩:=qZ.1 hps
 exact⟨by rw[e];exact hg.len,h.data _ _ hl⟩