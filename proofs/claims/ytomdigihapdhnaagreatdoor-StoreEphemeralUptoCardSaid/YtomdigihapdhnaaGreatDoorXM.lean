import Derived.Test.YtomdigihapdhnaaGreatDoorXL
set_option linter.all false
set_option maxRecDepth 99999
set_option maxHeartbeats 0
open Go.IntKind(i64)
open Go.Proofs.Tryz
namespace Go.Proofs.YtomdigihapdhnaaGreatDoor
namespace Zt
open Go SL Pa Wi
variable{h:Hub}{kind n owner qb qn req:Int}{o:MOp}{b:Nat}{x:Rep}{st:St}{s:Sto}{d home p:Str}{k:Str×Int}{t:Tbl}{m:jl}{c:zD}
theorem auo:okN n=true↔1<=n/\n<=4611686018427387903:=by unfold okN;simp
theorem agm{k:Str}{h:xl}(i:vK b t)(hk:qy t k=some h):qP k=true/\adC b h:=i.ok _ (yr hk)
theorem alr(i:vK b t)(k:Str):adC b (qQ t k):=by
 unfold qQ
 cases e:qy t k with
 | none=>exact⟨⟨by show(0:Int)<=0;omega,by show(0:Int)<=b;omega⟩,List.nodup_nil,(fun p h=>by cases h),List.nodup_nil,Nat.zero_le _,fun p h=>by cases h⟩
 | some h=>exact(agm i e).2
theorem amb{k:Str}{h:xl}(i:vK b t)(hn:qP k=true)(hh:adC b h)(hl:(qy t k).isSome=true\/t.length+1<=b):vK b (wR t k h):=by
 refine⟨aig i.keys,fun p hp=>?_,?_⟩
 .rcases aih hp with rfl | hp
  .exact⟨hn,hh⟩
  .exact i.ok p hp
 .rw[akI]
  have:=i.len
  split
  .exact this
  .rename_i hm
   rw[<-kR]at hm
   rcases hl with hl | hl
   .rw[hm]at hl;cases hl
   .exact hl
theorem arD{nonce lease:Int}(i:vK b t):vK (b+1) (vm t home nonce lease).1:=by
 unfold vm
 split
 .exact i.mono z7
 rename_i h1
 split
 .exact i.mono z7
 rename_i h2
 split
 .exact i.mono z7
 rename_i h3
 split
 .exact i.mono z7
 rename_i h4
 split
 .exact i.mono z7
 rename_i h5
 simp only[Bool.not_eq_false]at h1 h2
 obtain⟨a1,a2,a3,a4,a5,a6⟩:=alr i home
 have hnk:qy (qQ t home).live ((qQ t home).last+1)=none:=by
  rw[kR]
  intro hm
  obtain⟨p,hp,e⟩:=mC.1 hm
  have:=(a3 p hp).2
  omega
 refine amb (i.mono z7) h1 ?_ (.inr (by have:=i.len;omega))
 unfold alp
 rw[akC _ hnk]
 simp only[not_or]at h5
 have hnn:∀ p∈(qQ t home).live,p.2.nonce≠nonce:=fun p hp e=>by
  unfold agJ at h4
  have:=List.find?_eq_none.1 h4 p hp
  simp[e]at this
 refine⟨by simp only;omega,?_,fun p hp=>?_,?_,j0,fun p hp=>?_⟩
 .simp only
  rw[mB,List.nodup_append]
  rw[kR]at hnk
  exact⟨a2,z8,fun x hx y hy e=>hnk (by simp at hy;rw[<-hy,<-e];exact hx)⟩
 .rcases mt.1 hp with hp | hp
  .have:=a3 p hp;simp only;omega
  .rw[mo.1 hp];simp only;omega
 .simp only
  rw[mB,List.nodup_append]
  refine⟨a4,z8,fun x hx y hy e=>?_⟩
  obtain⟨p,hp,rfl⟩:=mC.1 hx
  simp at hy
  exact hnn p hp (by rw[e,hy])
 .rcases mt.1 hp with hp | hp
  .exact(a6 p hp).mono z7
  .rw[mo.1 hp]
   exact⟨h2,(by show 1<=lease/\lease<=1048576;omega),⟨by show(0:Int)<=0;omega,by show(0:Int)<=((b+1:Nat):Int);omega⟩,⟨by show(0:Int)<=0;omega,by show(0:Int)<=4611686018427387903;omega⟩,Nat.zero_le _⟩
theorem aij{e:Int}{s:yv}(h:jG t k=(e,some s)):e=0/\∃ hs,qy t k.1=some hs/\1<=k.2/\k.2<=hs.last/\qy hs.live k.2=some s:=by
 unfold jG at h
 split at h
 .cases h
 .rename_i hs e1
  split at h
  .cases h
  .rename_i e2
   split at h
   .cases h
   .rename_i s' e3
    cases h
    exact⟨rfl,hs,e1,z7,z7,e3⟩
theorem abi(t:Tbl)(k:Str×Int):(∃s,jG t k=(0,some s))\/∃ e,(e=150\/e=151)/\jG t k=(e,none):=by
 unfold jG
 split
 .exact .inr ⟨150,.inl rfl,rfl⟩
 .split
  .exact .inr ⟨150,.inl rfl,rfl⟩
  .split
   .exact .inr ⟨151,.inr rfl,rfl⟩
   .exact .inl ⟨_,rfl⟩
theorem an4{s s':yv}(i:vK b t)(hf:jG t k=(0,some s))(hn:s'.nonce=s.nonce)(hs:ahu b s'):vK b (agj t k s'):=by
 obtain⟨_,hh,h1,h2,h3,h4⟩:=aij hf
 unfold agj
 rw[h1]
 obtain⟨hk,a1,a2,a3,a4,a5,a6⟩:=agm i h1
 refine amb i hk ?_ (.inl (by rw[h1];try rfl))
 have hmem:=yr h4
 obtain⟨j,hj,ej⟩:=mZ hmem
 have hj':hh.live[j]?=some (k.2,s):=by rw[md hj,ej]
 refine⟨a1,aig a2,fun p hp=>?_,?_,by simp only;rw[aoH h4];exact a5,fun p hp=>?_⟩
 .rcases aih hp with rfl | hp
  .exact⟨h2,h3⟩
  .exact a3 p hp
 .simp only
  rw[agb s' a2 hj']
  have:(hh.live.set j (k.2,s')).map (·.2.nonce)=hh.live.map (·.2.nonce):=by
   apply nA
   intro x
   rw[List.map_set,nH,mg]
   by_cases e:j=x
   .subst e;rw[hj'];simp[hj,hn]
   .rw[ma e]
  rw[this];exact a4
 .rcases aih hp with rfl | hp
  .exact hs
  .exact a6 p hp
theorem afO{s:yv}(i:vK b t)(hf:jG t k=(0,some s)):ahu b s:=by
 obtain⟨_,hh,h1,h2,h3,h4⟩:=aij hf
 exact(agm i h1).2.ok _ (yr h4)
theorem an5(i:vK b t):vK b (afp t k):=by
 unfold afp
 split
 .exact i
 rename_i hh h1
 obtain⟨hk,a1,a2,a3,a4,a5,a6⟩:=agm i h1
 refine amb i hk ?_ (.inl (by rw[h1];try rfl))
 have hsub:(ji hh.live k.2).Sublist hh.live:=aii
 exact⟨a1,List.Nodup.sublist (hsub.map _) a2,fun p hp=>a3 p (hsub.subset hp),List.Nodup.sublist (hsub.map _) a4,by have:=hsub.length_le;simp only;omega,fun p hp=>a6 p (hsub.subset hp)⟩
theorem aqg(i:vK b t):vK (b+1) (abc t k).1:=by
 unfold abc
 rcases abi t k with⟨s,e⟩ | ⟨x,_,e⟩
 .rw[e]
  have hs:=afO i e
  exact an4 (i.mono z7) e rfl ⟨hs.nonce,hs.lease,by have:=hs.beats;simp only;omega,hs.req,hs.reply⟩
 .rw[e];exact i.mono z7
theorem asV(i:vK b t)(hd:d.length<=1048576):vK b (ad8 t k req d).1:=by
 unfold ad8
 rcases abi t k with⟨s,e⟩ | ⟨x,_,e⟩
 .rw[e]
  have hs:=afO i e
  simp only
  split
  .exact i
  .rename_i hn
   split
   .exact i
   .simp only[Bool.not_eq_false]at hn
    have:=auo.1 hn
    exact an4 i e rfl ⟨hs.nonce,hs.lease,hs.beats,by simp only;omega,hd⟩
 .rw[e];exact i
theorem ag8(i:vK b t):vK b (ky t k n).1:=by
 unfold ky
 rcases abi t k with⟨s,e⟩ | ⟨x,_,e⟩
 .rw[e]
  simp only
  split
  .exact an5 i
  .exact i
 .rw[e];exact i
theorem aik(i:vK b t):vK b (aav t k).1:=by
 unfold aav
 rcases abi t k with⟨s,e⟩ | ⟨x,_,e⟩
 .rw[e];exact an5 i
 .rw[e];exact i
theorem apv{d:yw}(i:kX b h)(hd:acS b k d)(hl:(qy h k).isSome=true\/h.length+1<=b):kX b (wR h k d):=by
 refine⟨aig i.keys,fun p hp=>?_,?_⟩
 .rcases aih hp with rfl | hp
  .exact hd
  .exact i.ok p hp
 .rw[akI]
  have:=i.len
  split
  .exact this
  .rename_i hm
   rw[<-kR]at hm
   rcases hl with hl | hl
   .rw[hm]at hl;cases hl
   .exact hl
theorem arE(i:kX b h)(k:Str×Int):acS b k (vD h k):=by
 unfold vD
 cases e:qy h k with
 | none=>exact⟨by show 0+0<=32;omega,⟨by show(0:Int)<=0;omega,by show(0:Int)+(0:Nat)<=b;omega⟩,(fun p h=>by cases h),⟨by show(0:Int)<=0;omega,by show(0:Int)<=0;omega⟩,List.nodup_nil,fun p h=>by cases h⟩
 | some d=>exact i.ok _ (yr e)
theorem an6(i:kX b h):kX (b+1) (un h k m).1:=by
 unfold un
 split
 .exact i.mono z7
 rename_i h1
 simp only[nW]at h1
 split
 .exact i.mono z7
 rename_i h2
 obtain⟨a1,a2,a3,a4,a5,a6⟩:=arE i k
 refine apv (i.mono z7) ?_ (.inr (by have:=i.len;omega))
 unfold asT
 by_cases c:m∈(vD h k).marks
 .rw[mc c]
  exact⟨a1,by simp only;omega,a3,a4,a5,a6⟩
 .rw[ma c]
  simp only[not_and]at h2
  have:=h2 c
  refine⟨j0,j0,a3,a4,?_,fun x hx=>?_⟩
  .simp only
   rw[List.nodup_append]
   exact⟨a5,z8,fun x hx y hy e=>c (by simp at hy;rw[<-hy,<-e];exact hx)⟩
  .rcases mt.1 hx with hx | hx
   .exact a6 x hx
   .rw[mo.1 hx];exact h1
theorem asW{h:Str}(hh:qu p=some h):p.length<=128:=by
 unfold qu at hh
 split at hh
 .rename_i x r e
  obtain⟨e1,e2⟩:=qW.1 e
  rw[e1];exact e2.len
 .cases hh
theorem asX(h:ad9 k m=0):m.1.length<=128:=asW (aoG h).1
theorem asY{d:yw}(i:acS b k d)(hk:1<=kind/\kind<=4):acS b k (afF m kind d):=by
 unfold afF
 split
 .rename_i hm
  obtain⟨a1,a2,a3,a4,a5,a6⟩:=i
  have hl:=List.length_erase_of_mem hm
  have hp:=List.length_pos_of_mem hm
  unfold ama
  refine⟨j0,by simp only;omega,fun e he=>?_,by simp only;omega,a5.erase _,fun x hx=>a6 x (List.mem_of_mem_erase hx)⟩
  rcases mt.1 he with he | he
  .have:=a3 e he
   exact⟨by simp only;omega,this.2⟩
  .rw[mo.1 he]
   exact⟨by simp only;omega,by simp only;omega,asX (a6 m hm)⟩
 .exact i
theorem ado(i:kX b h)(hk:1<=kind/\kind<=4):kX b (ud h m kind):=by
 unfold ud
 refine⟨by rw[nP];exact i.keys,fun p hp=>?_,by rw[mi];exact i.len⟩
 obtain⟨q,hq,rfl⟩:=mC.1 hp
 exact asY (i.ok q hq) hk
theorem asZ{e:Int×Str}(i:kX b h):kX b (ac0 h e):=by
 unfold ac0
 split
 .exact i
 .split
  .exact i
  .rename_i hc
   have i1:kX b (ud h (e.2,1) e.1):=ado i z7
   simp only
   split
   .split
    .exact ado (ado i1 z7) z7
    .exact ado i1 z7
   .split
    .exact ado i1 z7
    .exact i1
theorem ail:∀ (l:List (Int×Str)) {h:Hub},kX b h->kX b (ue h l)
 | [],_,i=>i
 | e::l,_,i=>ail l (asZ i)
theorem an7(i:kX b h):kX b (ji h k):=
 ⟨List.Nodup.sublist (aii.map _) i.keys,fun p hp=>i.ok p (aii.subset hp),Lt aii.length_le i.len⟩
theorem aet(i:kX b h):kX b (aea h k n).1:=by
 unfold aea
 split
 .exact i
 .rename_i d hd
  split
  .exact i
  .rename_i hc
   have hd0:acS b k d:=i.ok _ (yr hd)
   obtain⟨a1,a2,a3,a4,a5,a6⟩:=hd0
   refine apv i ?_ (.inl (by rw[hd];try rfl))
   have hl:=List.length_filter_le (fun e:Int×Int×Str=> !decide (e.1<=n)) d.events
   refine⟨?_,a2,fun e he=>a3 e (Lz.1 he).1,?_,a5,a6⟩
   .show(d.events.filter _).length+d.marks.length<=32
    omega
   .show 0<=max d.acked n/\max d.acked n<=d.last
    omega
theorem afG:qK n=true↔0<=n/\n<=4611686018427387903:=by unfold qK;simp
theorem arF(h:qK n=true):((n.toNat:Nat):Int)=n/\n.toNat<4611686018427387904:=by
 have:=afG.1 h;omega
theorem as0(r:Rd):(qL r).1<4611686018427387904:=by
 unfold qL
 split
 .show 0<4611686018427387904;omega
 .exact(arc _).2
structure agK(x:Rep):Prop where
 data:x.data.length<=256
 res:∀ y∈x.results,y.1.length<=128
 names:∀ y∈x.names,y.length<=128
 evs:∀ y∈x.events,y.2.2.length<=128
theorem ag9(h:qK n=true):(qY n.toNat).length<=9:=(aaU 8 n.toNat (by have:=(arF h).2;omega)).2
theorem als{n:Nat}(h:n<4611686018427387904):(qY n).length<=9:=(aaU 8 n z7).2
theorem aqh{m:Nat}(h:d.length<=m)(hm:m<4611686018427387904):(pQ d).length<=9+m:=by
 unfold pQ
 have:=als (n:=d.length) z7
 rw[mW];omega
theorem uR{α:Type}{f:α->Str}{n:Nat}:∀ {l:List α},(∀y∈l,(f y).length<=n)->(l.flatMap f).length<=n*l.length
 | [],_=>by simp
 | y::l,h=>by
  have h1:=uR (l:=l) fun z hz=>h z (by simp[hz])
  have h2:=h y z8
  rw[nI,mW,mx,Nat.mul_add]
  omega
theorem aup(h:aeb x)(ht:agK x):(ajt x).length<=1048576:=by
 obtain⟨h1,h2,h3,h4,h5,c1,c2,c3,c4,c5,c6,c7,h6,h7⟩:=h
 have e1:=ag9 c1
 have e2:=ag9 c2
 have e3:=ag9 c3
 have e4:=ag9 c4
 have e5:=ag9 c5
 have e6:=ag9 c6
 have e7:=ag9 c7
 have e8:(qY (x.bad+1).toNat).length<=9:=als z7
 have e9:=als (n:=x.results.length) z7
 have e10:=als (n:=x.names.length) z7
 have e11:=als (n:=x.events.length) z7
 have e12:=aqh ht.data y0
 have f1:(ajr x.results).length<=146*x.results.length:=uR fun y hy=>by
  rw[mW]
  have:=ag9 (h6 y hy)
  have:=aqh (ht.res y hy) y0
  omega
 have f2:(x.names.flatMap pQ).length<=137*x.names.length:=uR fun y hy=>by
  have:=aqh (ht.names y hy) y0
  omega
 have f3:(ajs x.events).length<=155*x.events.length:=uR fun y hy=>by
  rw[mW,mW]
  have:=ag9 (h7 y hy).1
  have:=ag9 (h7 y hy).2
  have:=aqh (ht.evs y hy) y0
  omega
 unfold ajt
 simp only[mW]
 omega
theorem apw(ht:agK x):((abd x).getD []).length<=1048576:=by
 unfold abd
 split
 .rename_i h;exact aup h ht
 .simp
theorem as1(h:wm b st)(hb:b<=4398046511103):(xu owner st o).2.1.length<=128/\0<=(xu owner st o).2.2.1/\(xu owner st o).2.2.1<=4398046511104:=by
 unfold xu
 split
 .rcases ag7 st o.path o.data (if o.eph=true then owner else 0) o.seq with⟨e,_,he⟩ | ⟨q,u,n,he,_,_,_,_,hq,_⟩
  .rw[he];simp
  .rw[he]
   refine⟨?_,z8,z8⟩
   simp only
   unfold qv at hq
   cases hp:parts q with
   | none=>rw[hp]at hq;cases hq
   | some ps=>
    obtain⟨e1,e2⟩:=qW.1 hp
    rw[e1];exact e2.len
 .split
  .exact⟨z8,z8,z8⟩
  .split
   .rcases agF st o.path o.data o.ver with⟨e,_,he⟩ | ⟨n,he,hn,_⟩
    .rw[he];simp
    .rw[he]
     have:=h.ver _ n hn
     have e:i64.wrap (n.ver+1)=n.ver+1:=SL.wd z7 z7
     simp only[e]
     exact⟨z8,z7,z7⟩
   .exact⟨z8,z8,z8⟩
theorem aoI:∀ {os:List MOp} {i b:Nat} {w w':um},vp home owner qn qb os i w= .inr w'->wm b w.st->b+os.length<=4398046511103->(∀y∈w.res,y.1.length<=128/\0<=y.2/\y.2<=4398046511104)->
  (∀y∈w'.res,y.1.length<=128/\0<=y.2/\y.2<=4398046511104)/\w'.res.length=w.res.length+os.length:=by
 intro os
 induction os with
 | nil=>intro i b w w' h _ _ hr;cases h;exact⟨hr,rfl⟩
 | cons o os ih=>
  intro i b w w' h hi hb hr
  simp only[mx]at hb⊢
  unfold vp at h
  split at h
  .cases h
  .rename_i hc
   have h0:(doE home owner qn qb w o).1=0:=by simpa using hc
   have hre:(doE home owner qn qb w o).2.res=w.res++[((xu owner w.st o).2.1,(xu owner w.st o).2.2.1)]:=by
    unfold doE at h0⊢
    split at h0
    .rename_i hx;exact mu h0 hx
    .rename_i hx
     rw[ma hx]
     split at h0
     .rename_i hy;exact mu h0 hy
     .rename_i hy
      rw[ma hy]
      split at h0
      .cases h0
      .rename_i hz;rw[ma hz]
   obtain⟨k1,k2⟩:=ih h (afN hi z7) z7 fun y hy=>by
    rw[hre]at hy
    rcases mt.1 hy with hy | hy
    .exact hr y hy
    .rw[mo.1 hy];exact as1 hi z7
   refine⟨k1,?_⟩
   rw[k2,hre];simp;omega
theorem auq{w:um}:0<=(doE home owner qn qb w o).1/\(doE home owner qn qb w o).1<=100:=by
 have hw:0<=zh home o/\zh home o<=100:=by
  unfold zh
  split
  .omega
  .split
   .omega
   .split<;>omega
 have c1:∀ (st:St) p d o s,0<=(wo st p d o s).2.2/\(wo st p d o s).2.2<=100:=fun st p d o s=>by
  have h:(wo st p d o s).2.2∈[(20:Int),75,10,70,74,76,71,0]:=by
   unfold wo
   split
   .simp
   .split
    .simp
    .split
     .simp
     .split
      .simp
      .split
       .simp
       .split
        .simp
        .split
         .simp
         .split<;>simp
  simp only[mq,nf,or_false]at h
  omega
 have c2:∀ (st:St) p v,0<=(wq st p v).2/\(wq st p v).2<=100:=fun st p v=>by
  have h:(wq st p v).2∈[(20:Int),70,72,73,0]:=by
   unfold wq
   split
   .simp
   .split
    .simp
    .split
     .simp
     .split
      .simp
      .split<;>simp
  simp only[mq,nf,or_false]at h
  omega
 have c3:∀ (st:St) p d v,0<=(xd st p d v).2.2/\(xd st p d v).2.2<=100:=fun st p d v=>by
  have h:(xd st p d v).2.2∈[(20:Int),70,72,75,0]:=by
   unfold xd
   split
   .simp
   .split
    .simp
    .split
     .simp
     .split<;>simp
  simp only[mq,nf,or_false]at h
  omega
 have c4:∀ (st:St) p v,0<=agi st p v/\agi st p v<=100:=fun st p v=>by
  unfold agi
  split
  .omega
  .split<;>omega
 have hc:0<=(xu owner w.st o).2.2.2/\(xu owner w.st o).2.2.2<=100:=by
  unfold xu
  split
  .exact c1 _ _ _ _ _
  .split
   .exact c2 _ _ _
   .split
    .exact c3 _ _ _ _
    .exact c4 _ _ _
 unfold doE
 split
 .exact hw
 .split
  .exact hc
  .split
   .show(0:Int)<=81/\(81:Int)<=100;omega
   .show(0:Int)<=0/\(0:Int)<=100;omega
theorem aqi:∀ {os:List MOp} {i:Nat} {w:um} {x:Nat×Int},vp home owner qn qb os i w= .inl x->(0<=x.2/\x.2<=100)/\x.1<i+os.length:=by
 intro os
 induction os with
 | nil=>intro i w x h;cases h
 | cons o os ih=>
  intro i w x h
  unfold vp at h
  split at h
  .cases h;exact⟨auq,z8⟩
  .obtain⟨h1,h2⟩:=ih h
   exact⟨h1,by simp only[mx];omega⟩
theorem alt{ops:List MOp}(h:wm b st)(hb:b<=4398046511000):
  ((∀y∈(qZ st home owner qn qb ops).res,y.1.length<=128/\0<=y.2/\y.2<=4398046511104)/\(qZ st home owner qn qb ops).res.length<=16)/\(0<=(qZ st home owner qn qb ops).err/\(qZ st home owner qn qb ops).err<=100)/\ -1<=(qZ st home owner qn qb ops).bad/\(qZ st home owner qn qb ops).bad<=16:=by
 unfold qZ
 split
 .exact⟨⟨(fun y h=>by cases h),z8⟩,z8,z8⟩
 .rename_i hl
  split
  .exact⟨⟨(fun y h=>by cases h),z8⟩,z8,z8⟩
  .cases e:vp home owner qn qb ops 0 ⟨srt st,[],[]⟩with
   | inl x=>
    obtain⟨h1,h2⟩:=aqi e
    exact⟨⟨(fun y h=>by cases h),by simp[acQ]⟩,h1,by simp only[acQ];omega,by simp only[acQ];omega⟩
   | inr w=>
    obtain⟨h1,h2⟩:=aoI e (adm h) z7 (fun y h=>by cases h)
    refine⟨⟨h1,?_⟩,by simp[acQ],by simp[acQ],by simp[acQ]⟩
    show w.res.length<=16
    rw[h2];simp;omega
theorem amc{n:Nd}(h:wm b st)(hn:st.lookup p=some n):n.data.length<=256:=h.inv.data p n hn
theorem aoJ{ks:List Str}:∀ y∈jX ks p,y.length<=128:=fun y hy=>by
 unfold jX at hy
 obtain⟨k,_,hk⟩:=List.mem_filterMap.1 hy
 split at hk
 .unfold base at hk
  split at hk
  .rename_i ps e
   have:=(aaQ ((qW.1 e).2.ok y (List.mem_of_getLast? hk))).2
   omega
  .cases hk
 .cases hk
theorem an8(i:vq b s)(hb:b<=33554432):agK (doS s c).2:=by
 have z:agK Rep.zero:=⟨by simp[Rep.zero],(fun y h=>by cases h),(fun y h=>by cases h),(fun y h=>by cases h)⟩
 have fz:∀ e,agK (wZ e):=fun e=>⟨by simp[wZ,Rep.zero],(fun y h=>by cases h),(fun y h=>by cases h),(fun y h=>by cases h)⟩
 unfold doS
 split
 .exact z
 split
 .unfold agk
  have:=alt (home:=c.home) (owner:=c.session) (qn:=64) (qb:=8192) (ops:=c.ops) i.tree z7
  exact⟨by simp[Rep.zero],fun y hy=>(this.1.1 y hy).1,(fun y h=>by cases h),(fun y h=>by cases h)⟩
 split
 .unfold adn
  split
  .exact fz _
  .split
   .exact fz _
   .simp only
    split
    .exact fz _
    .rename_i n hn
     exact⟨amc i.tree hn,(fun y h=>by cases h),(fun y h=>by cases h),(fun y h=>by cases h)⟩
 split
 .unfold aaZ
  split
  .exact fz _
  .split
   .exact fz _
   .split
    .exact fz _
    .exact⟨by simp[Rep.zero],(fun y h=>by cases h),aoJ,(fun y h=>by cases h)⟩
 .exact z
theorem amd(i:vq b s)(hb:b<=33554432):vq (b+1) (doS s c).1:=by
 have i0:vq (b+1) s:=⟨i.tree.mono z7,i.tbl.mono z7,i.hub.mono z7,by have:=i.ep;omega,i.mem⟩
 unfold doS
 split
 .exact⟨i0.tree,aqg i.tbl,i0.hub,i0.ep,i.mem⟩
 split
 .unfold agk
  exact⟨(alk i.tree z7).mono z7,i0.tbl,ail _ i0.hub,i0.ep,i.mem⟩
 split
 .unfold adn
  split
  .exact i0
  .split
   .exact i0
   .refine⟨i0.tree,i0.tbl,?_,i0.ep,i.mem⟩
    simp only
    split
    .exact an6 i.hub
    .exact i0.hub
 split
 .unfold aaZ
  split
  .exact i0
  .split
   .exact i0
   .split
    .exact i0
    .refine⟨i0.tree,i0.tbl,?_,i0.ep,i.mem⟩
     simp only
     split
     .exact an6 i.hub
     .exact i0.hub
 .exact i0
theorem alu(i:vq b s)(hb:b<=33554433):vq b (aeZ s k):=
 ⟨aqf i.tree z7,i.tbl,ail _ (an7 i.hub),i.ep,i.mem⟩
theorem aqj(i:vq b s)(hb:b<=33554432):vq (b+1) (pS s c).1:=by
 have i0:vq (b+1) s:=⟨i.tree.mono z7,i.tbl.mono z7,i.hub.mono z7,by have:=i.ep;omega,i.mem⟩
 unfold pS
 split
 .unfold aci
  split
  .exact i0
  .refine⟨?_,arD i.tbl,i0.hub,i0.ep,i.mem⟩
   simp only
   split
   .exact(ako i.tree z7).mono z7
   .exact i0.tree
 split
 .split
  .exact alu (b:=b+1) ⟨i0.tree,ag8 i0.tbl,i0.hub,i0.ep,i.mem⟩ z7
  .exact i0
 split
 .unfold acj
  split
  .exact i0
  .rename_i hr
   split
   .exact i0
   .refine⟨i0.tree,i0.tbl,i0.hub,by have:=i.ep;simp only;omega,?_⟩
    unfold aaY at hr
    simp only[Bool.not_eq_false,mw,mP]at hr
    exact hr.2
 split
 .unfold acl
  split
  .exact i0
  split
  .exact i0
  have i1:vq b ({s with hub:=(aea s.hub c.key c.ack).1}:Sto):=⟨i.tree,i.tbl,aet i.hub,i.ep,i.mem⟩
  simp only
  split
  .exact alu (b:=b+1) ⟨i0.tree,aik i0.tbl,aet i0.hub,i0.ep,i.mem⟩ z7
  .have i2:=amd (c:=c) i1 hb
   exact⟨i2.tree,asV i2.tbl (apw (an8 i1 hb)),i2.hub,i2.ep,i2.mem⟩
 .exact i0
end Zt
namespace SL
open Go
variable{P:Program}{B:World}{ro I I':AH}{tag tag':Nat->Nat}
variable{β:Type}{s:Int}{kt:TypeId}
theorem anh{em:Bool}{f:Unit->Sem β}{K:β->AH->Prop}(hk:P.underlying kt=some (.int .i64))(h:awp P ro (f ()) K I):awp P ro (Sem.bind (Instr.checkKey em 10000 kt (.int .i64 s)) f) K I:=by
 rw[show(10000:Nat)=9999+1 from rfl]
 unfold Instr.checkKey
 simp only[qx]
 rw[bind_assoc',qz hk]
 exact h
theorem an9{l:List MapEntry}{r:Option (Nat×Value)}{f:Option (Nat×Value)->Sem β}{K:β->AH->Prop}(hk:P.underlying kt=some (.int .i64))(hr:Instr.findNow (.int .i64) (.int .i64 s) l 0=some r)(h:awp P ro (f r) K I):
  awp P ro (Sem.bind (Instr.findKey kt (.int .i64 s) l) f) K I:=by
 unfold Instr.findKey
 simp only[qx]
 rw[bind_assoc',qz hk]
 rw[hr]
 exact h
end SL
namespace SL
open Go
variable{P:Program}
variable{τ:AH}{n off:Nat}{k:Str×Int}{kt t:TypeId}
abbrev kS(k:Str):Value:= .string (S k)
abbrev kI(k:Int):Value:= .int .i64 k
abbrev kSI(k:Str×Int):Value:= .agg #[.string (S k.1),.int .i64 k.2]
theorem akr{κ:Type}[DecidableEq κ]{enc:κ->Value}{d:TypeDesc}(hsame:∀ k k',Instr.sameNow d (enc k) (enc k')=some (decide (k=k')))(k:κ):∀ (l:List MapEntry) (m:List (κ×Value)) (i:Nat),l.map uM=m.map (aeH enc)->Instr.findNow d (enc k) l i=some (acW k m i):=by
 intro l
 induction l with
 | nil=>intro m i h;cases m with
  | nil=>rfl
  | cons p m=>cases h
 | cons e l ih=>
  intro m i h
  cases m with
  | nil=>cases h
  | cons p m=>
   simp only[mF,List.cons.injEq]at h
   have hk:e.key=enc p.1:=mh Prod.fst h.1
   have hv:e.val=p.2:=mh Prod.snd h.1
   unfold Instr.findNow acW
   rw[hk,hsame,hv]
   by_cases c:k=p.1
   .rw[mc c,Lc c]
   .rw[ma c,nX c]
    exact ih m (i+1) h.2
theorem ajw(hk:P.underlying kt=some .string):akA P kt kS where
 check:=fun h=>adS hk h
 find:=fun{_ _ _ k l m f K} he h=>by
  refine uN hk (akr (enc:=kS) (fun k k'=>?_) k l m 0 he) h
  show some (S k == S k')=_
  rw[akw];congr 1;rw[LU];exact ab6
 stays:=fun k=>by
  unfold Instr.keyThatStays
  rw[mc (by simp[Instr.sameBits,akw])];try rfl
theorem ame(hk:P.underlying kt=some (.int .i64)):akA P kt kI where
 check:=fun h=>anh hk h
 find:=fun{_ _ _ k l m f K} he h=>by
  refine an9 hk (akr (enc:=kI) (fun k k'=>?_) k l m 0 he) h
  show(if IntKind.i64=IntKind.i64 then some (k == k')else none)=_
  rw[mc rfl];congr 1
 stays:=fun k=>by
  unfold Instr.keyThatStays
  rw[mc (by simp[Instr.sameBits])];try rfl
section
variable{ro:AH}
theorem wL{α β:Type}(s:Sem α)(f:α->Sem β){a:α}(h:qg P ro s τ=some a):qg P ro (Sem.bind s f) τ=qg P ro (f a) τ:=by
 induction s with
 | pure x=>cases h;rfl
 | load m x k ih=>
  simp only[qg]at h
  simp only[Sem.bind,qg]
  split at h
  .exact ih _ h
  .cases h
 | program k ih=>exact ih _ h
 | mark m k ih=>exact ih h
 | _=>cases h
structure SI(P:Program)(kt:TypeId):Prop where
 st:∃ n1 n2:Field,P.underlying kt=some (.struct #[n1,n2])/\P.underlying n1.type=some .string/\n1.offset=0/\P.underlying n2.type=some (.int .i64)/\n2.offset=1/\n1.name≠ "_" /\n2.name≠ "_"
 held:P.stoodInHeld kt=false
theorem ajT{cs:Array Value}{v:Value}(ht:P.underlying t=some .string\/P.underlying t=some (.int .i64))(hv:cs[off]?=some v):qg P ro (part t cs off) τ=some v:=by
 have hs:cs.getD off undef=v:=by simp[mS,hv]
 unfold part
 show qg P ro (Sem.bind (isAgg t) _) τ=_
 rcases ht with ht | ht
 .rw[uL ht];simp[hv];rfl
 .rw[uL ht];simp[hv];rfl
theorem avf{a b:ByteArray}(ht:P.underlying t=some .string):qg P ro (Op.equalIn (n+1) t (.string a) (.string b)) τ=some (decide (a=b)):=by
 unfold Op.equalIn
 show qg P ro (Sem.bind (underlying t) _) _=_
 rw[qF _ _ ht]
 show some (a == b)=_
 rw[akw]
theorem avg{a b:Int}(ht:P.underlying t=some (.int .i64)):qg P ro (Op.equalIn (n+1) t (.int .i64 a) (.int .i64 b)) τ=some (decide (a=b)):=by
 unfold Op.equalIn
 show qg P ro (Sem.bind (underlying t) _) _=_
 rw[qF _ _ ht]
 show some (a == b)=_
 congr 1
theorem awn(hk:SI P kt){k':Str×Int}:qg P ro (Op.equalIn (9998+2) kt (kSI k) (kSI k')) τ=some (decide (k=k')):=by
 obtain⟨n1,n2,hu,h1,h2,h3,h4,h5,h6⟩:=hk.st
 unfold Op.equalIn
 show qg P ro (Sem.bind (underlying kt) _) _=_
 rw[qF _ _ hu]
 show qg P ro (if P.stoodInHeld kt=true then _ else _) τ=_
 rw[hk.held,ma z8]
 show qg P ro (Sem.bind (forIn #[n1,n2] _ _) _) τ=_
 have p0:∀ {β:Type} (k:Str×Int) (f:Value->Sem β),qg P ro (part n1.type #[Value.string (S k.1),Value.int IntKind.i64 k.2] n1.offset >>= f) τ=qg P ro (f (.string (S k.1))) τ:=fun k f=>wL _ _ (ajT (.inl h1) (by rw[h2];try rfl))
 have p1:∀ {β:Type} (k:Str×Int) (f:Value->Sem β),qg P ro (part n2.type #[Value.string (S k.1),Value.int IntKind.i64 k.2] n2.offset >>= f) τ=qg P ro (f (.int .i64 k.2)) τ:=fun k f=>wL _ _ (ajT (.inr h3) (by rw[h4];try rfl))
 have q0:∀ {β:Type} (f:Bool->Sem β),qg P ro (Op.equalIn 9999 n1.type (.string (S k.1)) (.string (S k'.1)) >>= f) τ=qg P ro (f (decide (S k.1=S k'.1))) τ:=fun f=>wL _ _ (avf (n:=9998) h1)
 have q1:∀ {β:Type} (f:Bool->Sem β),qg P ro (Op.equalIn 9999 n2.type (.int .i64 k.2) (.int .i64 k'.2) >>= f) τ=qg P ro (f (decide (k.2=k'.2))) τ:=fun f=>wL _ _ (avg (n:=9998) h3)
 obtain⟨k1,k2⟩:=k
 obtain⟨m1,m2⟩:=k'
 rw[<-Array.forIn_toList]
 show qg P ro (Sem.bind (forIn [n1,n2] _ _) _) τ=_
 by_cases c1:k1=m1
 .by_cases c2:k2=m2
  .rw[Lc (by rw[c1,c2])]
   refine(wL _ _ (a:=((none,()):Option Bool×Unit)) ?_).trans rfl
   rw[List.forIn_cons]
   refine(wL _ _ (a:= .yield ((none,()):Option Bool×Unit)) ?_).trans ?_
   .rw[mc h5,p0,p0,q0,Lc (by rw[c1])];try rfl
   .show qg P ro (forIn [n2] _ _) τ=_
    rw[List.forIn_cons]
    refine(wL _ _ (a:= .yield ((none,()):Option Bool×Unit)) ?_).trans ?_
    .rw[mc h6,p1,p1,q1,Lc c2];try rfl
    .rfl
  .rw[nX (by rintro h;cases h;exact c2 rfl)]
   refine(wL _ _ (a:=((some false,()):Option Bool×Unit)) ?_).trans rfl
   rw[List.forIn_cons]
   refine(wL _ _ (a:= .yield ((none,()):Option Bool×Unit)) ?_).trans ?_
   .rw[mc h5,p0,p0,q0,Lc (by rw[c1])];try rfl
   .show qg P ro (forIn [n2] _ _) τ=_
    rw[List.forIn_cons]
    refine(wL _ _ (a:= .done ((some false,()):Option Bool×Unit)) ?_).trans ?_
    .rw[mc h6,p1,p1,q1,nX c2];try rfl
    .rfl
 .rw[nX (by rintro h;cases h;exact c1 rfl)]
  refine(wL _ _ (a:=((some false,()):Option Bool×Unit)) ?_).trans rfl
  rw[List.forIn_cons]
  refine(wL _ _ (a:= .done ((some false,()):Option Bool×Unit)) ?_).trans ?_
  .rw[mc h5,p0,p0,q0,nX (by rw[ab6];exact c1)];rfl
  .rfl
theorem aur(hk:SI P kt){em:Bool}:qg P ro (Instr.checkKey em (9998+2) kt (kSI k)) τ=some ():=by
 obtain⟨n1,n2,hu,h1,h2,h3,h4,h5,h6⟩:=hk.st
 unfold Instr.checkKey
 show qg P ro (Sem.bind (underlying kt) _) _=_
 rw[qF _ _ hu]
 show qg P ro (Sem.bind (forIn #[n1,n2] _ _) _) τ=_
 have p0:∀ {β:Type} (f:Value->Sem β),qg P ro (part n1.type #[Value.string (S k.1),Value.int IntKind.i64 k.2] n1.offset >>= f) τ=qg P ro (f (.string (S k.1))) τ:=fun f=>wL _ _ (ajT (.inl h1) (by rw[h2];try rfl))
 have p1:∀ {β:Type} (f:Value->Sem β),qg P ro (part n2.type #[Value.string (S k.1),Value.int IntKind.i64 k.2] n2.offset >>= f) τ=qg P ro (f (.int .i64 k.2)) τ:=fun f=>wL _ _ (ajT (.inr h3) (by rw[h4];try rfl))
 have c0:∀ {β:Type} (f:Unit->Sem β),qg P ro (Instr.checkKey em 9999 n1.type (.string (S k.1)) >>= f) τ=qg P ro (f ()) τ:=fun f=>wL _ _ (by
  rw[show(9999:Nat)=9998+1 from rfl];unfold Instr.checkKey
  show qg P ro (Sem.bind (underlying n1.type) _) _=_
  rw[qF _ _ h1];try rfl)
 have c1:∀ {β:Type} (f:Unit->Sem β),qg P ro (Instr.checkKey em 9999 n2.type (.int .i64 k.2) >>= f) τ=qg P ro (f ()) τ:=fun f=>wL _ _ (by
  rw[show(9999:Nat)=9998+1 from rfl];unfold Instr.checkKey
  show qg P ro (Sem.bind (underlying n2.type) _) _=_
  rw[qF _ _ h3];try rfl)
 refine(wL _ _ (a:=()) ?_).trans rfl
 rw[<-Array.forIn_toList]
 show qg P ro (forIn [n1,n2] _ _) τ=_
 rw[List.forIn_cons]
 refine(wL _ _ (a:= .yield ()) ?_).trans ?_
 .rw[mc h5,p0,c0];try rfl
 .show qg P ro (forIn [n2] _ _) τ=_
  rw[List.forIn_cons]
  refine(wL _ _ (a:= .yield ()) ?_).trans ?_
  .rw[mc h6,p1,c1];try rfl
  .rfl
theorem av0(hk:SI P kt)(k:Str×Int):∀ (l:List MapEntry) (m:List ((Str×Int)×Value)) (i:Nat),l.map uM=m.map (aeH kSI)->qg P ro (Instr.findAsking kt (kSI k) l i) τ=some (acW k m i):=by
 intro l
 induction l with
 | nil=>intro m i h;cases m with
  | nil=>rfl
  | cons p m=>cases h
 | cons e l ih=>
  intro m i h
  cases m with
  | nil=>cases h
  | cons p m=>
   simp only[mF,List.cons.injEq]at h
   have h1:e.key=kSI p.1:=mh Prod.fst h.1
   have hv:e.val=p.2:=mh Prod.snd h.1
   unfold Instr.findAsking acW
   rw[h1,hv]
   show qg P ro (Sem.bind (Op.equal kt (kSI k) (kSI p.1)) _) τ=_
   refine(wL _ _ (a:=decide (k=p.1)) (by unfold Op.equal Op.maxDepth;exact awn hk)).trans ?_
   by_cases c:k=p.1
   .rw[Lc c,mc rfl,mc c];try rfl
   .rw[nX c,ma z8,ma c]
    exact ih m (i+1) h.2
end
theorem aec(hk:SI P kt):akA P kt kSI where
 check:=fun{ro I _ em k f K} h=>by
  show awp P ro (_ >>= f) K I
  rw[vQ]
  exact afP _ (aur hk) h
 find:=fun{ro I _ k l m f K} he h=>by
  show awp P ro (_ >>= f) K I
  rw[vQ]
  refine afP _ (a:=acW k m 0) ?_ h
  obtain⟨n1,n2,hu,_⟩:=hk.st
  unfold Instr.findKey
  show qg P ro (Sem.bind (underlying kt) _) _=_
  rw[qF _ _ hu]
  cases l with
  | nil=>cases m with
   | nil=>rfl
   | cons p m=>cases he
  | cons e l=>
   have hn:Instr.findNow (.struct #[n1,n2]) (kSI k) (e::l) 0=none:=rfl
   rw[hn]
   exact av0 hk k _ m 0 he
 stays:=fun k=>by
  unfold Instr.keyThatStays
  rw[mc (by simp[Instr.sameBits,akw])];try rfl
end SL
namespace Zt
open Go SL G Pa Wi
variable{B:World}{ro I I':AH}{tag tag':Nat->Nat}
variable{h:Hub}{bs:List Nat}{M T b c:Nat}{home:Str}{k:Str×Int}{t:Tbl}{d:yw}
def pr(b c:Nat):Nat:=(b+c)*(b+c)+b
theorem arG{b' c':Nat}(h:pr b c=pr b' c'):b=b'/\c=c':=by
 unfold pr at h
 have key:∀ s s' x x':Nat,x<=s->x'<=s'->s*s+x=s'*s'+x'->¬ s<s':=fun s s' x x' h1 h2 h3 h4=>by
  have:(s+1)*(s+1)<=s'*s':=Nat.mul_le_mul h4 h4
  have e:(s+1)*(s+1)=s*s+2*s+1:=by rw[nT,Nat.mul_add];omega
  omega
 have h1:=key _ _ _ _ (by omega:b<=b+c) (by omega:b'<=b'+c') h
 have h2:=key _ _ _ _ (by omega:b'<=b'+c') (by omega:b<=b+c) h.symm
 have e:b+c=b'+c':=by omega
 rw[e]at h
 omega
def aed(tag:Nat->Nat)(I:AH)(b:Nat)(home:Str)(c:Nat)(n:Int)(s:yv):Prop:=
 ∃d:Sl,Row tag I (58+64*(pr b c+2)) 83 ⟨some ⟨c,0,none⟩,7,7⟩ [Pa.vS home,vI n,vI s.nonce,vI s.lease,vI s.beats,vI s.req,Sl.v d]/\Row tag I 6 5 d (s.reply.map vU)
def pG(tag:Nat->Nat)(I:AH)(b:Nat)(home:Str)(h:xl):Prop:=
 ∃m cs,Row tag I (56+64*(b+2)) 254 ⟨some ⟨b,0,none⟩,2,2⟩ [vI h.last,.map (some m)]/\yq kI (aed tag I b home) tag I (57+64*(b+2)) m cs h.live
structure wF(tag:Nat->Nat)(I:AH)(T M:Nat)(bs:List Nat)(t:Tbl):Prop where
 cell:Row tag I 55 242 ⟨some ⟨T,0,none⟩,1,1⟩ [.map (some M)]
 map:yq kS (pG tag I) tag I 119 M bs t
def aim(tag:Nat->Nat)(I:AH)(T:Nat)(t:Tbl):Prop:= ∃M bs,wF tag I T M bs t
def evV(e:Int×Int×Str):List Value:=[vI e.1,vI e.2.1,Pa.vS e.2.2]
def yx(tag:Nat->Nat)(I:AH)(b:Nat)(k:Str×Int)(d:yw):Prop:=
 ∃m s,Row tag I (59+64*(b+2)) 310 ⟨some ⟨b,0,none⟩,4,4⟩ [Sl.v s,vI d.acked,vI d.last,.map (some m)]/\qm tag I (61+64*(b+2)) 132 3 s (d.events.map evV)/\zu kSI tag I (60+64*(b+2)) m (d.marks.map fun k=>(k,vI 1))
structure wY(tag:Nat->Nat)(I:AH)(T M:Nat)(bs:List Nat)(h:Hub):Prop where
 cell:Row tag I 62 245 ⟨some ⟨T,0,none⟩,1,1⟩ [.map (some M)]
 map:yq kSI (yx tag I) tag I 126 M bs h
def ajU(tag:Nat->Nat)(I:AH)(T:Nat)(h:Hub):Prop:= ∃M bs,wY tag I T M bs h
section
variable{R C:List Nat}
theorem aed.keep{n:Int}{s:yv}(h:aed tag I b home c n s)(k:qd R ro tag I tag' I')(h1:58+64*(pr b c+2)∉R:=by simp)(h6:6∉R:=by simp):aed tag' I' b home c n s:=by
 obtain⟨d,a,e⟩:=h
 exact⟨d,a.keep k h1,e.keep k h6⟩
theorem pG.keep{h:xl}(i:pG tag I b home h)(k:qd R ro tag I tag' I')(h1:∀ x∈R,x%64=56->x≠56+64*(b+2):=by simp)(h2:∀ x∈R,x%64=57->x≠57+64*(b+2):=by simp)(h3:∀ c,58+64*(pr b c+2)∉R:=by simp)(h6:6∉R:=by simp):pG tag' I' b home h:=by
 obtain⟨m,cs,a,e⟩:=i
 exact⟨m,cs,a.keep k fun hm=>h1 _ hm z7 rfl,e.mono (e.map.keep k fun hm=>h2 _ hm z7 rfl) fun i c n s _ _ hs=>hs.keep k (h3 c) h6⟩
theorem pG.keepS{h:xl}(i:pG tag I b home h)(k:StepS C ro tag I tag' I')(hC:56∉C/\57∉C/\58∉C/\6∉C:=by decide):pG tag' I' b home h:=by
 obtain⟨R,hR,k⟩:=k
 refine i.keep k (fun x hx e=>?_) (fun x hx e=>?_) (fun c hx=>?_) fun hx=>?_
 .have:=hR x hx;rw[e]at this;exact mu this hC.1
 .have:=hR x hx;rw[e]at this;exact mu this hC.2.1
 .have:=hR _ hx;rw[show(58+64*(pr b c+2))%64=58 by omega]at this;exact hC.2.2.1 this
 .exact hC.2.2.2 (hR _ hx)
theorem wF.keepS(i:wF tag I T M bs t)(k:StepS C ro tag I tag' I')(hC:55∉C/\56∉C/\57∉C/\58∉C/\6∉C:=by decide):wF tag' I' T M bs t:=
 ⟨i.cell.keepS k hC.1,i.map.mono (i.map.map.keepS k hC.1) fun _ b k' h _ _ hh=>hh.keepS k hC.2⟩
theorem aim.keepS(i:aim tag I T t)(k:StepS C ro tag I tag' I')(hC:55∉C/\56∉C/\57∉C/\58∉C/\6∉C:=by decide):aim tag' I' T t:=by
 obtain⟨M,bs,i⟩:=i
 exact⟨M,bs,i.keepS k hC⟩
theorem yx.keep(i:yx tag I b k d)(st:qd R ro tag I tag' I')(h1:59+64*(b+2)∉R:=by simp)(h2:60+64*(b+2)∉R:=by simp)(h3:61+64*(b+2)∉R:=by simp):yx tag' I' b k d:=by
 obtain⟨m,s,a,e,f⟩:=i
 exact⟨m,s,a.keep st h1,e.keep st h3,f.keep st h2⟩
theorem yx.keepS(i:yx tag I b k d)(st:StepS C ro tag I tag' I')(hC:59∉C/\60∉C/\61∉C:=by decide):yx tag' I' b k d:=by
 obtain⟨R,hR,st⟩:=st
 refine i.keep st (fun hx=>?_) (fun hx=>?_) fun hx=>?_
 .have:=hR _ hx;rw[show(59+64*(b+2))%64=59 by omega]at this;exact hC.1 this
 .have:=hR _ hx;rw[show(60+64*(b+2))%64=60 by omega]at this;exact hC.2.1 this
 .have:=hR _ hx;rw[show(61+64*(b+2))%64=61 by omega]at this;exact hC.2.2 this
theorem wY.keepS(i:wY tag I T M bs h)(st:StepS C ro tag I tag' I')(hC:62∉C/\59∉C/\60∉C/\61∉C:=by decide):wY tag' I' T M bs h:=
 ⟨i.cell.keepS st hC.1,i.map.mono (i.map.map.keepS st hC.1) fun _ b k' d _ _ hh=>hh.keepS st hC.2⟩
theorem ajU.keepS(i:ajU tag I T h)(st:StepS C ro tag I tag' I')(hC:62∉C/\59∉C/\60∉C/\61∉C:=by decide):ajU tag' I' T h:=by
 obtain⟨M,bs,i⟩:=i
 exact⟨M,bs,i.keepS st hC⟩
end
def abD(tag:Nat->Nat)(I:AH)(W:Nat)(s:Sto):Prop:= ∃(T Tt Th:Nat) (ms:Sl),
 Row tag I 54 153 ⟨some ⟨W,0,none⟩,5,5⟩ [vI s.epoch,Sl.v ms,ptr T,ptr Tt,ptr Th]/\Row tag I 118 3 ms (s.members.map vI)/\qV tag I 10 T s.tree/\aim tag I Tt s.tbl/\ajU tag I Th s.hub
end Zt
namespace Zt
open Go SL G Pa Go.Maps Go.Sort Go.Shelf Go.RowKit
variable{B:World}{ro I I':AH}{tag tag':Nat->Nat}
variable{m:List (Str×Value)}{M b c gb:Nat}{Q:Value->AH->Prop}{w:World}
theorem u3p:prog.underlying 3=some (.int .i64):=y1
theorem zu.is{r:Nat}(h:zu kS tag I r b m):zT tag I r b m:=⟨h.tg,h.obj⟩
theorem aoa{t:Nat}{v:Value}(hg:Row tag I 0 t ⟨some ⟨gb,0,none⟩,1,1⟩ [v])(hw:alL ro I w)(hs:SL.Sep ro I):w.cell? ⟨gb,0,none⟩=some v/\gb<w.heap.size:=by
 have hcell:w.cell? ⟨gb,0,none⟩=some v:=by
  have h1:=Row.cell1 hg hs
  unfold qa at h1
  rw[cell?_eq]
  cases hr:SL.rd ro I gb with
  | none=>simp only at h1;rw[hr]at h1;cases h1
  | some o=>simp only at h1;rw[hw gb o hr];rw[hr]at h1;exact h1
 refine⟨hcell,?_⟩
 rw[cell?_eq]at hcell
 cases hh:w.heap[gb]? with
 | none=>simp only at hcell;rw[hh]at hcell;cases hcell
 | some o=>exact wK hh
theorem as2(hQ:∀ gb tag' I',(∀R,qd R ro tag I tag' I')->Row tag' I' 0 240 ⟨some ⟨gb,0,none⟩,1,1⟩ [.map (some M)]->Q (.func (.func 242) #[] #[.pointer (some ⟨gb,0,none⟩)]) I'):
  aby B ro (some M) I Q:=by
 refine qc.of_calls fun w hw hsep=>?_
 refine(callsIn_wide.1 (Tryz.maps_Keys_198 (some M) w)).mono ?_
 rintro e w' ⟨he,rfl⟩
 obtain⟨N,tag',hN,hst,hrow⟩:=ab7 (tag:=tag) (w':=w.alloc (.cells #[.map (some M)] 240)) 0 hw hsep (mK w.heap.size) (heap_alloc_new w _)
 exact⟨_,N,he,(Below.refl _ w).alloc (mK _) _,hN,_,rfl,hQ _ tag' _ hst (hrow _ _ _ rfl rfl (mK _) rfl)⟩
theorem aqk{Q:Sl->AH->Prop}(r:Nat)(hg:Row tag I 0 240 ⟨some ⟨gb,0,none⟩,1,1⟩ [.map (some b)])(hm:zu kS tag I c b m)(hnd:(m.map (·.1)).Nodup)(hl:∀ p∈m,p.1.length<=128)(hn:m.length<=4398046511104)
  (hQ:∀ (s:Sl) (tag':Nat->Nat) (I':AH) (ks:List Str),(∀R,qd R ro tag I tag' I')->ks.Perm (m.map (·.1))->ks.Pairwise (· <= ·)->Row tag' I' r 9 s (ks.map Pa.vS)->Q s I'):yf B ro (.func (.func 242) #[] #[.pointer (some ⟨gb,0,none⟩)]) I Q:=by
 refine qc.of_calls fun w hw hsep=>?_
 obtain⟨D,hown,hsz,hperm⟩:=au5 (zu.is hm) hw hsep hnd hl hn
 obtain⟨hcell,hlt⟩:=aoa hg hw hsep
 have hseq:SeqGives Fence.wide 2 prog 242 #[.pointer (some ⟨gb,0,none⟩)] encStr (fun ss=>ss.Perm (strKeys D)) (Maps.size D) w:=
  AnyZ.keys_gives (ρ:=aki) {ao8 with} Fence.wide _ trivial rfl z7 gb b m.length D w hlt hcell hown
 have hsort:=AnyZ.sorted_in amx Fence.wide 5 trivial trivial trivial trivial rfl z7 (Tryz.sorts136 _) (enters_of func195 y1 rfl) 242 #[.pointer (some ⟨gb,0,none⟩)] trivial (enters_of func242 y1 rfl) _ _ (by rw[hsz];simp only[maxLen];omega) (by rw[hsz];omega) _ hseq
 refine(callsIn_wide.1 hsort).mono ?_
 rintro e w' ⟨v,ss,he,hS,hrow,hnil,hb⟩
 have hpair:(ss.mergeSort (fun x y=>decide (x<=y))).Pairwise (· <= ·):=by
  have:=List.pairwise_mergeSort (le:=fun x y:List UInt8=>decide (x<=y)) (fun a b c h1 h2=>by simp at *;exact List.le_trans h1 h2) (fun a b=>by simp;exact List.le_total a b) ss
  simpa using this
 have hpm:(ss.mergeSort (fun x y=>decide (x<=y))).Perm (m.map (·.1)):=(List.mergeSort_perm _ _).trans (hS.trans hperm)
 rcases hrow with⟨hlen,⟨rfl,h0⟩ | ⟨g,cap,cur,rfl,hbase,hgb,r1,r2,r3,r4⟩⟩
 .have h0':ss=[]:=mO h0
  subst h0'
  refine⟨_,fun _=>none,he,hb,ahP.none _ _,⟨none,0,0⟩,rfl,?_⟩
  rw[yG]
  exact hQ _ tag I _ (fun _=>qd.refl hsep) hpm hpair (by simpa using Row.nil r 9)
 .obtain⟨N,tag',hN,hst,hrow⟩:=ab7 (tag:=tag) r hw hsep hbase hgb
  refine⟨_,N,he,hb,hN,⟨some ⟨g,0,none⟩,ss.length,cap⟩,rfl,?_⟩
  refine hQ _ tag' _ _ hst hpm hpair (hrow _ _ _ z8 (by rw[r3,mV]) r1 ?_)
  rw[mV]at r4
  rw[r4];try rfl
theorem av1{m:List (Int×Value)}(hm:zu kI tag I c b m)(hw:alL ro I w)(hs:SL.Sep ro I)(hnd:(m.map (·.1)).Nodup)(hl:∀ p∈m,0<=p.1/\p.1<=4611686018427387904)(hn:m.length<=4398046511104):
  ∃D:DataW Unit,w.ownsMap prog 3 RT b m.length D/\Maps.size D=m.length/\(intKeys D).Perm (m.map (·.1)):=by
 obtain⟨es,clock,hb,he,hbn⟩:=hm.obj
 have hwb:=hw b _ (by unfold SL.rd;rw[hs b _ hb];exact hb)
 have hsz:es.size=m.length:=by have:=mh List.length he;simpa using this
 have hkey:∀ (i:Nat) (h1:i<es.toList.length),∃h2:i<m.length,(es.toList[i]).key= .int .i64 m[i].1:=fun i h1=>by
  have h2:i<m.length:=by rw[<-hsz];simpa using h1
  refine⟨h2,?_⟩
  have h:=mh (·[i]?) he
  simp only[mg,md h1,md h2,Option.map_some]at h
  exact mh Prod.fst (mA h)
 have hko:∀ (i:Nat) (h1:i<es.toList.length) (h2:i<m.length),WideElems.rd prog 3 RT es.toList[i]=some (.int .i64 m[i].1,.nil):=fun i h1 h2=>by
  obtain⟨_,hk⟩:=hkey i h1
  have hlen:=hl _ (mG h2)
  unfold WideElems.rd
  rw[hk]
  have:keyOf prog 3 (.int .i64 m[i].1)=some (.int .i64 m[i].1):=by
   unfold keyOf
   rw[u3p]
   show mapKey prog 3 (.int .i64 m[i].1)=_
   unfold mapKey
   rw[u3p]
   show(if _ then _ else _)=_
   rw[mc ⟨rfl,by
    have e1:IntKind.i64.min= -9223372036854775808:=by decide
    have e2:IntKind.i64.max=9223372036854775807:=by decide
    show(decide (IntKind.i64.min<=m[i].1) && decide (m[i].1<=IntKind.i64.max))=true
    rw[e1,e2,mw,me,me];omega⟩]
  rw[this];try rfl
 refine⟨.map ((es.toList.map (WideElems.rg prog 3 RT)).foldr DataW.insert []),⟨es,clock,hwb,⟨by rw[hsz];simp only[maxLen];omega,⟨hbn.lt,hbn.nd,?_⟩,?_⟩,z7,rfl⟩,?_,?_⟩
 .have:es.toList.map (·.key)=(m.map (·.1)).map fun k=>Value.int .i64 k:=by
   apply LD
   .simp[hsz]
   .intro i h1 h2
    simp only[List.getElem_map]
    obtain⟨_,h⟩:=hkey i (j2 h1)
    exact h
  rw[this]
  refine List.Pairwise.map _ (fun a b hab e=>hab ?_) hnd
  simpa using e
 .intro x hx
  obtain⟨i,hi,rfl⟩:=mZ hx
  obtain⟨h2,_⟩:=hkey i hi
  exact⟨_,hko i hi h2⟩
 .show((es.toList.map (WideElems.rg prog 3 RT)).foldr DataW.insert []).length=m.length
  rw[DataW.length_sorted];simp[hsz]
 .show(((es.toList.map (WideElems.rg prog 3 RT)).foldr DataW.insert []).map fun p=>Go.intOf p.1).Perm _
  refine((WideShapes.sorted_perm _).map _).trans ?_
  rw[nP]
  have:es.toList.map ((fun p:Lit×DataW Unit=>Go.intOf p.1) ∘ WideElems.rg prog 3 RT)=m.map (·.1):=by
   apply LD
   .simp[hsz]
   .intro i h1 h2
    simp only[List.getElem_map,Function.comp]
    have h3:i<es.toList.length:=by simpa using h1
    obtain⟨h4,_⟩:=hkey i h3
    unfold WideElems.rg
    rw[hko i h3 h4];try rfl
  rw[this]
theorem as3(hQ:∀ gb tag' I',(∀R,qd R ro tag I tag' I')->Row tag' I' 0 252 ⟨some ⟨gb,0,none⟩,1,1⟩ [.map (some M)]->Q (.func (.func 245) #[] #[.pointer (some ⟨gb,0,none⟩)]) I'):
  aaD B ro (some M) I Q:=by
 refine qc.of_calls fun w hw hsep=>?_
 refine(callsIn_wide.1 (AnyZI.keys_in apg Fence.wide 5 trivial rfl (some M) w)).mono ?_
 rintro e w' ⟨he,rfl⟩
 obtain⟨N,tag',hN,hst,hrow⟩:=ab7 (tag:=tag) (w':=w.alloc (.cells #[.map (some M)] 252)) 0 hw hsep (mK w.heap.size) (heap_alloc_new w _)
 exact⟨_,N,he,(Below.refl _ w).alloc (mK _) _,hN,_,rfl,hQ _ tag' _ hst (hrow _ _ _ rfl rfl (mK _) rfl)⟩
theorem aql{m:List (Int×Value)}{Q:Sl->AH->Prop}(r:Nat)(hg:Row tag I 0 252 ⟨some ⟨gb,0,none⟩,1,1⟩ [.map (some b)])(hm:zu kI tag I c b m)(hnd:(m.map (·.1)).Nodup)(hl:∀ p∈m,0<=p.1/\p.1<=4611686018427387904)(hn:m.length<=4398046511104)
  (hQ:∀ (s:Sl) (tag':Nat->Nat) (I':AH) (ks:List Int),(∀R,qd R ro tag I tag' I')->ks.Perm (m.map (·.1))->ks.Pairwise (· <= ·)->Row tag' I' r 3 s (ks.map vI)->Q s I'):aei B ro (.func (.func 245) #[] #[.pointer (some ⟨gb,0,none⟩)]) I Q:=by
 refine qc.of_calls fun w hw hsep=>?_
 obtain⟨D,hown,hsz,hperm⟩:=av1 hm hw hsep hnd hl hn
 obtain⟨hcell,hlt⟩:=aoa hg hw hsep
 have hseq:SeqGives Fence.wide 2 prog 245 #[.pointer (some ⟨gb,0,none⟩)] encZ (fun ss=>ss.Perm (intKeys D)) (Maps.size D) w:=
  AnyZI.keys_gives (ρ:=akk) {apg with} Fence.wide _ trivial rfl z7 gb b m.length D w hlt hcell hown
 have hsort:=AnyZI.sorted_in aq7 Fence.wide 5 trivial trivial trivial trivial rfl z7 (Tryz.sorts200 _) (enters_of func244 y1 rfl) 245 #[.pointer (some ⟨gb,0,none⟩)] trivial (enters_of func245 y1 rfl) _ _ (by rw[hsz];simp only[maxLen];omega) (by rw[hsz];omega) _ hseq
 refine(callsIn_wide.1 hsort).mono ?_
 rintro e w' ⟨v,ss,he,hS,hrow,hnil,hb⟩
 have hpair:(ss.mergeSort (fun x y=>decide (x<=y))).Pairwise (· <= ·):=by
  have:=List.pairwise_mergeSort (le:=fun x y:Int=>decide (x<=y)) (fun a b c h1 h2=>by simp at *;omega) (fun a b=>by simp;omega) ss
  simpa using this
 have hpm:(ss.mergeSort (fun x y=>decide (x<=y))).Perm (m.map (·.1)):=(List.mergeSort_perm _ _).trans (hS.trans hperm)
 rcases hrow with⟨hlen,⟨rfl,h0⟩ | ⟨g,cap,cur,rfl,hbase,hgb,r1,r2,r3,r4⟩⟩
 .have h0':ss=[]:=mO h0
  subst h0'
  refine⟨_,fun _=>none,he,hb,ahP.none _ _,⟨none,0,0⟩,rfl,?_⟩
  rw[yG]
  exact hQ _ tag I _ (fun _=>qd.refl hsep) hpm hpair (by simpa using Row.nil r 3)
 .obtain⟨N,tag',hN,hst,hrow⟩:=ab7 (tag:=tag) r hw hsep hbase hgb
  refine⟨_,N,he,hb,hN,⟨some ⟨g,0,none⟩,ss.length,cap⟩,rfl,?_⟩
  refine hQ _ tag' _ _ hst hpm hpair (hrow _ _ _ z8 (by rw[r3,mV]) r1 ?_)
  rw[mV]at r4
  rw[r4]
end Zt
namespace Zt
open Go SL G Pa Wi
variable{B:World}{ro I I':AH}{tag tag':Nat->Nat}
variable{n:Int}{R cs:List Nat}{b c i j m:Nat}{home:Str}{h:xl}{s:yv}
abbrev rH(b:Nat):Nat:=56+64*(b+2)
abbrev rL(b:Nat):Nat:=57+64*(b+2)
abbrev rS(b c:Nat):Nat:=58+64*(pr b c+2)
structure ahv(b:Nat)(R:List Nat):Prop where
 r6:6∉R
 r55:55∉R
 r119:119∉R
 r56:∀ x∈R,x%64=56->x=rH b
 r57:∀ x∈R,x%64=57->x=rL b
 r58:∀ x∈R,x%64=58->∃ c,x=rS b c
theorem pG.other{b':Nat}(i:pG tag I b' home h)(k:qd R ro tag I tag' I')(hR:ahv b R)(hne:b'≠b):pG tag' I' b' home h:=by
 refine i.keep k (fun x hx e e'=>?_) (fun x hx e e'=>?_) (fun c hx=>?_) hR.r6
 .have:=hR.r56 x hx e;unfold rH at this;omega
 .have:=hR.r57 x hx e;unfold rL at this;omega
 .obtain⟨c',e⟩:=hR.r58 _ hx z7
  unfold rS at e
  exact hne (arG (b:=b') (c:=c) (b':=b) (c':=c') z7).1
section
variable{T M:Nat}{bs:List Nat}{t:Tbl}
theorem wF.old{x x':xl}(h:wF tag I T M bs t)(k:qd R ro tag I tag' I')(hR:ahv b R)(hb:bs[i]?=some b)(hp:t[i]?=some (home,x))(hn:pG tag' I' b home x'):wF tag' I' T M bs (wR t home x'):=
 ⟨h.cell.keep k hR.r55,h.map.write hb hp (h.map.map.keep k hR.r119) hn fun b' k' x hb' _ hA=>hA.other k hR hb'⟩
structure aa0(tag:Nat->Nat)(I:AH)(bs:List Nat)(t:Tbl)(home:Str)(n:Int)(i b:Nat)(h:xl)(m:Nat)(cs:List Nat)(j c:Nat)(s:yv):Prop where
 hb:bs[i]?=some b
 hp:t[i]?=some (home,h)
 row:Row tag I (rH b) 254 ⟨some ⟨b,0,none⟩,2,2⟩ [vI h.last,.map (some m)]
 map:yq kI (aed tag I b home) tag I (rL b) m cs h.live
 hc:cs[j]?=some c
 hq:h.live[j]?=some (n,s)
 rng:1<=n/\n<=h.last
theorem aa0.sess(f:aa0 tag I bs t home n i b h m cs j c s):aed tag I b home c n s:=f.map.at' j c n s f.hc f.hq
theorem aa0.look(f:aa0 tag I bs t home n i b h m cs j c s)(hi:wF tag I T M bs t):qy t home=some h/\qy h.live n=some s/\jG t (home,n)=(0,some s):=by
 have h1:qy t home=some h:=ah1 hi.map.keys (mU f.hp)
 have h2:qy h.live n=some s:=ah1 f.map.keys (mU f.hq)
 refine⟨h1,h2,?_⟩
 unfold jG
 rw[h1]
 simp only
 have:=f.rng
 rw[ma z7,h2]
theorem wF.setS{s':yv}(hi:wF tag I T M bs t)(f:aa0 tag I bs t home n i b h m cs j c s)(k:qd [rS b c] ro tag I tag' I')(hn:aed tag' I' b home c n s'):wF tag' I' T M bs (agj t (home,n) s'):=by
 have hR:ahv b [rS b c]:=by
  refine⟨by simp[rH,rL,rS]<;>omega,by simp[rH,rL,rS]<;>omega,by simp[rH,rL,rS]<;>omega,fun x hx e=>?_,fun x hx e=>?_,fun x hx e=>⟨c,mo.1 hx⟩⟩
  .rw[mo.1 hx]at e;unfold rS at e;omega
  .rw[mo.1 hx]at e;unfold rS at e;omega
 have hs:Zt.agj t (home,n) s'=wR t home {h with live:=wR h.live n s'}:=by unfold Zt.agj;rw[(f.look hi).1]
 rw[hs]
 refine hi.old k hR f.hb f.hp ⟨m,cs,f.row.keep k (by simp[rH,rL,rS]<;>omega),f.map.write f.hc f.hq (f.map.map.keep k (by simp[rH,rL,rS]<;>omega)) hn fun c' k' x hc _ hx=>hx.keep k (fun hm=>?_) (by simp[rH,rL,rS]<;>omega)⟩
 have e:=mo.1 hm
 unfold rS at e
 exact hc (arG (b:=b) (c:=c') (b':=b) (c':=c) z7).2
theorem wF.delS(hi:wF tag I T M bs t)(f:aa0 tag I bs t home n i b h m cs j c s)(k:qd [rL b] ro tag I tag' I')(hm:zu kI tag' I' (rL b) m (ji (kvP h.live cs) n)):wF tag' I' T M bs (afp t (home,n)):=by
 have hR:ahv b [rL b]:=by
  refine⟨by simp[rH,rL,rS]<;>omega,by simp[rH,rL,rS]<;>omega,by simp[rH,rL,rS]<;>omega,fun x hx e=>?_,fun x hx e=>mo.1 hx,fun x hx e=>?_⟩
  .rw[mo.1 hx]at e;unfold rL at e;omega
  .rw[mo.1 hx]at e;unfold rL at e;omega
 have hs:Zt.afp t (home,n)=wR t home {h with live:=ji h.live n}:=by unfold Zt.afp;rw[(f.look hi).1]
 rw[hs]
 exact hi.old k hR f.hb f.hp ⟨m,cs.eraseIdx j,f.row.keep k (by simp[rH,rL,rS]<;>omega),f.map.del f.hc f.hq hm fun c' k' x hx=>hx.keep k (by simp[rH,rL,rS]<;>omega) (by simp[rH,rL,rS]<;>omega)⟩
end
theorem ajx{κ α:Type}[DecidableEq κ]:∀ {m:List (κ×α)} {k:κ} {v:α},qy m k=some v->wR m k v=m
 | [],k,v,h=>by cases h
 | (k',v')::m,k,v,h=>by
  unfold qy at h
  unfold wR
  split at h
  .rename_i e;cases h;rw[mc e,e]
  .rename_i e;rw[ma e,ajx h]
end Zt
namespace SL
open Go
variable{P:Program}{B:World}{ro I I':AH}{tag tag':Nat->Nat}
variable{j w:Nat}{s:Sl}
theorem aeu(a:Addr)(p i:Nat):(a.add p).add i=a.add (p+i):=by
 cases p with
 | zero=>show a.add i=_;rw[ml]
 | succ p=>
  cases i with
  | zero=>rfl
  | succ i=>
   obtain⟨b,o,s⟩:=a
   cases s with
   | none=>simp[Addr.add];omega
   | some s=>simp[Addr.add];omega
theorem wy.ptr{l:List Value}(h:wy ro I s l)(hl:0<l.length):∃ p,s.a=some p/\∀ i v,l[i]?=some v->qa ro I (p.add i)=some v:=by
 cases e:s.a with
 | none=>have:=h.2.1 e;subst this;simp at hl
 | some p=>exact⟨p,rfl,h.2.2 p e⟩
theorem jF.at{l:List (List Value)}(h:jF ro I w s l){x:List Value}(hj:l[j]?=some x):∃ q,s.a=some q/\qe ro I (q.add (j*w)) 0 x:=by
 have hjl:j<l.length:=(List.getElem?_eq_some_iff.1 hj).1
 cases e:s.a with
 | none=>have:=h.2.1 e;subst this;simp at hjl
 | some q=>
  refine⟨q,rfl,zt 0 fun i v hv=>?_⟩
  have hw:=h.2.2.1 x (mU hj)
  have hi:i<w:=by
   have:=(List.getElem?_eq_some_iff.1 hv).1
   omega
  have:=h.2.2.2 q e (j*w+i) v (by rw[akz h.2.2.1 hj hi];exact hv)
  rw[ml,aeu];exact this
end SL
namespace Wi
open Go SL G Zt
variable{B:World}{ro I I':AH}{tag tag':Nat->Nat}
variable{K Q:AH->Prop}{n:Int}{W m r:Nat}{s:Sl}{a:Str×Bool}
theorem afH:∀ (ps:List Str) (a:Str×Bool),(∀p∈ps,p.length<=m)->(ps.foldl wj a).1.length<=a.1.length+ps.length*(m+9)
 | [],a,_=>by simp
 | p::ps,a,h=>by
  have h1:=afH ps (wj a p) fun q hq=>h q (by simp[hq])
  have h2:=px a p
  have h3:=h p z8
  rw[nh,mx,Nat.succ_mul]
  omega
theorem as4{ps:List Str}(h:vv tag I r W a.1 a.2)(hr:r≠1)(hs:SL.Sep ro I)(hm:∀ p∈ps,p.length<=m)(hl:a.1.length+ps.length*(m+9)<=140737488355328)
  (hx:∀ tag' I',qd [r,r+64,1] ro tag I tag' I'->SL.wy ro I' s (ps.map Pa.vS))
  (hQ:∀ tag' I',qd [r,r+64,1] ro tag I tag' I'->vv tag' I' r W (ps.foldl wj a).1 (ps.foldl wj a).2->Q I'):vr B ro (some ⟨W,0,none⟩) s I Q:=by
 refine ad6 fun _=>?_
 unfold uc
 have hsl:s.len=ps.length:=by rw[(hx tag I (qd.refl hs)).1,mi]
 suffices∀(k j:Nat) (tag1:Nat->Nat) (I1:AH),j+k=ps.length->qd [r,r+64,1] ro tag I tag1 I1->vv tag1 I1 r W ((ps.take j).foldl wj a).1 ((ps.take j).foldl wj a).2->lfpD (kW B ro (some ⟨W,0,none⟩) s Q) (j:Int) I1 from
  this _ 0 tag I (ml _) (qd.refl hs) (j2 h)
 have hps:ps.length<=140737488355328:=by
  have:ps.length*9<=ps.length*(m+9):=LH _ z7
  omega
 intro k
 induction k with
 | zero=>
  intro j tag1 I1 hj st h1
  refine lfpD.intro ?_
  unfold kW
  rw[ma z7]
  rw[mH z7]at h1
  exact hQ tag1 I1 st h1
 | succ k ih=>
  intro j tag1 I1 hj st h1
  have hjl:j<ps.length:=by omega
  have hp0:=hm ps[j] (mG hjl)
  have hlen:((ps.take j).foldl wj a).1.length+(9+ps[j].length)<=140737488355328:=by
   have:=afH (ps.take j) a fun p hp=>hm p (nV hp)
   rw[Lg,Nat.min_eq_left z7]at this
   have h2:(j+1)*(m+9)<=ps.length*(m+9):=Nat.mul_le_mul_right _ hjl
   rw[Nat.succ_mul]at h2
   omega
  obtain⟨p,hp,hg⟩:=(hx tag1 I1 st).ptr j0
  refine lfpD.intro ?_
  unfold kW
  rw[mc z7]
  refine⟨p,hp,z7,z7,S ps[j],?_,_,rfl,?_⟩
  .rw[mr,mV]
   exact hg j _ (by rw[mg,md hjl];try rfl)
  have hl2:=xe ((ps.take j).foldl wj a) ps[j].length
  rw[show((S ps[j]).size:Int)=(ps[j].length:Nat)from by rw[<-zd,L_S]]
  refine alj h1 hr st.sep z7 fun tag2 I2 st2 h2=>?_
  refine⟨_,rfl,?_⟩
  refine aht h2 st2.sep (by rw[L_S];omega) fun _ _ tag3 I3 st3 h3=>?_
  rw[L_S]at h3
  rw[Pa.inc j z7]
  have e:(ps.take (j+1)).foldl wj a=wj ((ps.take j).foldl wj a) ps[j]:=by
   rw[mN,md hjl,List.foldl_append];try rfl
  refine ih (j+1) tag3 I3 z7 (st.trans (st2.trans (st3.mono z8))) ?_
  rw[e]
  exact h3
theorem xC{a:Str}(h:qK n=true):wO (a,false) n=(a++qY n.toNat,false):=by unfold wO;rw[mc h]
theorem aaw(h:qK n=false):(wO a n).2=true:=by unfold wO;rw[h];try rfl
theorem jH(h:a.2=true):(wO a n).2=true:=by unfold wO;split<;>simp[h]
theorem agL{a p:Str}(h:p.length<4611686018427387904):wj (a,false) p=(a++pQ p,false):=by
 unfold wj
 rw[xC (by unfold qK;simp;omega),mr]
 unfold pQ
 simp
theorem ahw{p:Str}(h:a.2=true):(wj a p).2=true:=by unfold wj;exact jH h
theorem amQ:∀ (ns:List Int) {a:Str×Bool},a.2=true->(ns.foldl wO a).2=true
 | [],_,h=>h
 | n::ns,a,h=>amQ ns (a:=wO a n) (jH h)
theorem alv:∀ (ps:List Str) {a:Str×Bool},a.2=true->(ps.foldl wj a).2=true
 | [],_,h=>h
 | p::ps,a,h=>alv ps (a:=wj a p) (ahw h)
theorem alw:∀ (ps:List Str) {a:Str},(∀p∈ps,p.length<4611686018427387904)->ps.foldl wj (a,false)=(a++ps.flatMap pQ,false)
 | [],a,_=>by simp
 | p::ps,a,h=>by
  rw[nh,agL (h p z8),alw ps fun q hq=>h q (by simp[hq])]
  simp
theorem ajy(ns:List Int):∀ a:Str×Bool,(ns.foldl wO a).1.length<=a.1.length+9*ns.length:=by
 induction ns with
 | nil=>intro a;simp
 | cons n ns ih=>
  intro a
  have:=ih (wO a n)
  have:=xe a n
  rw[nh,mx];omega
theorem agn(ns:List Int)(h:vv tag I r W a.1 a.2)(hr:r≠1/\r≠0)(hs:SL.Sep ro I)(hl:a.1.length+9*ns.length<=140737488355328)
  (hK:∀ tag' I',qd [r,r+64,1] ro tag I tag' I'->vv tag' I' r W (ns.foldl wO a).1 (ns.foldl wO a).2->K I'):
  nw ro I (.cells (ns.map Zt.vI).toArray 3) fun y I=>wV B ro (some ⟨W,0,none⟩) (⟨some ⟨y,0,none⟩,ns.length,ns.length⟩:Sl) I K:=by
 refine qh (tag:=tag) 0 hs fun y tag1 I1 st1 r1=>?_
 rw[List.size_toArray,mi]at r1
 exact apq (r:=r) (q:=0) (ns:=ns) (a:=a) hr.1 ⟨Ne.symm hr.2,z7,z7⟩ (h.keep (st1 [])) (st1 []).sep hl r1 fun tag2 I2 st2 h2=>hK tag2 I2 ((st1 _).trans st2) h2
theorem arH(p:Str)(h:vv tag I r W a.1 a.2)(hr:r≠1/\r≠0)(hs:SL.Sep ro I)(hl:a.1.length+9+p.length<=140737488355328)
  (hK:∀ tag' I',qd [r,r+64,1] ro tag I tag' I'->vv tag' I' r W (wj a p).1 (wj a p).2->K I'):
  nw ro I (.cells #[.string (S p)] 9) fun y I=>vr B ro (some ⟨W,0,none⟩) (⟨some ⟨y,0,none⟩,1,1⟩:Sl) I K:=by
 refine qh (tag:=tag) 0 hs fun y tag1 I1 st1 r1=>?_
 exact amH (r:=r) (q:=0) (p:=p) (a:=a) (h.keep (st1 [])) hr.1 ⟨Ne.symm hr.2,z7,z7⟩ (st1 []).sep hl r1 fun tag2 I2 st2 h2=>hK tag2 I2 ((st1 _).trans st2) h2
theorem avh(p:Str)(h:vv tag I r W a.1 a.2)(hr:r≠1/\r≠0)(hs:SL.Sep ro I)(hl:a.1.length+9+p.length<=140737488355328)
  (hsrc:∀ tag' I',qd [r,r+64,1] ro tag I tag' I'->SL.wy ro I' s (p.map vU)) (hK:∀ tag' I',qd [r,r+64,1] ro tag I tag' I'->vv tag' I' r W (wj a p).1 (wj a p).2->K I'):
  nw ro I (.cells #[Sl.v s] 24) fun y I=>jO B ro (some ⟨W,0,none⟩) (⟨some ⟨y,0,none⟩,1,1⟩:Sl) I K:=by
 have hln:s.len=p.length:=by have:=(hsrc tag I (qd.refl hs)).1;rw[this,mi]
 refine qh (tag:=tag) 0 hs fun y tag1 I1 st1 r1=>?_
 exact amI (r:=r) (q:=0) (p:=p) (a:=a) (h.keep (st1 [])) hr.1 ⟨Ne.symm hr.2,z7,z7⟩ (st1 []).sep hl r1 hln (fun tag2 I2 st2=>hsrc tag2 I2 ((st1 _).trans st2)) fun tag2 I2 st2 h2=>hK tag2 I2 ((st1 _).trans st2) h2
end Wi
namespace Zt
open Go SL Pa Wi
variable{α:Type}{n:Nat}{x:Rep}
structure ain(x:Rep):Prop where
 data:x.data.length<=1048576
 res:∀ y∈x.results,y.1.length<=1048576
 names:∀ y∈x.names,y.length<=1048576
 evs:∀ y∈x.events,y.2.2.length<=1048576
def abY(a:Str×Bool)(y:Str×Int):Str×Bool:=wO (wj a y.1) y.2
def wev(a:Str×Bool)(y:Int×Int×Str):Str×Bool:=wj (wO (wO a y.1) y.2.1) y.2.2
def wr1(x:Rep):Str×Bool:=[x.code,x.session,(x.results.length:Int)].foldl wO ([],false)
def wr2(x:Rep):Str×Bool:=x.results.foldl abY (wr1 x)
def wr3(x:Rep):Str×Bool:=wj (wO (wr2 x) (x.bad+1)) x.data
def wr4(x:Rep):Str×Bool:=[x.ver,x.ctr,x.own,x.kids,(x.names.length:Int)].foldl wO (wr3 x)
def wr5(x:Rep):Str×Bool:=wO (x.names.foldl wj (wr4 x)) (x.events.length:Int)
def wr6(x:Rep):Str×Bool:=x.events.foldl wev (wr5 x)
def afq(x:Rep):Str×Bool:=wO (wr6 x) x.epoch
theorem akJ{f:Str×Bool->α->Str×Bool}:∀ (l:List α) (a:Str×Bool),(∀a,∀y∈l,(f a y).1.length<=a.1.length+n)->(l.foldl f a).1.length<=a.1.length+n*l.length
 | [],a,_=>by simp
 | y::l,a,h=>by
  have h1:=akJ l (f a y) fun a z hz=>h a z (by simp[hz])
  have h2:=h a y z8
  rw[nh,mx,Nat.mul_add]
  omega
theorem aio{f:Str×Bool->α->Str×Bool}(h:∀ a y,a.2=true->(f a y).2=true):∀ (l:List α) {a:Str×Bool},a.2=true->(l.foldl f a).2=true
 | [],_,k=>k
 | y::l,a,k=>aio h l (h a y k)
theorem as5(a:Str×Bool)(y:Str×Int):(abY a y).1.length<=a.1.length+18+y.1.length:=by
 unfold abY
 have:=xe (wj a y.1) y.2
 have:=px a y.1
 omega
theorem aus(a:Str×Bool)(y:Int×Int×Str):(wev a y).1.length<=a.1.length+27+y.2.2.length:=by
 unfold wev
 have:=px (wO (wO a y.1) y.2.1) y.2.2
 have:=xe (wO a y.1) y.2.1
 have:=xe a y.1
 omega
theorem amR(x:Rep)(hs:ain x)(h1:x.results.length<=16)(j:Nat):((x.results.take j).foldl abY (wr1 x)).1.length<=27+1048594*16:=by
 have h:=akJ (f:=abY) (n:=1048594) (x.results.take j) (wr1 x) fun a y hy=>by
  have:=as5 a y
  have:=hs.res y (nV hy)
  omega
 have h0:(wr1 x).1.length<=27:=by have:=ajy [x.code,x.session,(x.results.length:Int)] ([],false);simpa [wr1]using this
 have h2:(x.results.take j).length<=16:=by rw[Lg];omega
 have h3:1048594*(x.results.take j).length<=1048594*16:=LH _ h2
 omega
theorem apx(x:Rep)(hs:ain x)(h1:x.results.length<=16):(wr2 x).1.length<=27+1048594*16:=by
 have:=amR x hs h1 x.results.length
 rw[List.take_length]at this
 exact this
theorem apy(x:Rep)(hs:ain x)(h1:x.results.length<=16):(wr4 x).1.length<=20000000:=by
 have a:=apx x hs h1
 have b:=xe (wr2 x) (x.bad+1)
 have c:=px (wO (wr2 x) (x.bad+1)) x.data
 have d:=ajy [x.ver,x.ctr,x.own,x.kids,(x.names.length:Int)] (wr3 x)
 have e:=hs.data
 unfold wr4 wr3 at*
 simp only[mx,nE]at d
 omega
theorem aut(x:Rep)(hs:ain x)(h1:x.results.length<=16)(h2:x.names.length<=4096):(wr5 x).1.length<=20000009+4096*1048585:=by
 have a:=apy x hs h1
 have b:=afH (m:=1048576) x.names (wr4 x) hs.names
 have c:x.names.length*(1048576+9)<=4096*1048585:=Nat.mul_le_mul_right _ h2
 have d:=xe (x.names.foldl wj (wr4 x)) (x.events.length:Int)
 unfold wr5
 omega
theorem aob(x:Rep)(hs:ain x)(h1:x.results.length<=16)(h2:x.names.length<=4096)(h3:x.events.length<=32)(j:Nat):((x.events.take j).foldl wev (wr5 x)).1.length<=5000000000:=by
 have h:=akJ (f:=wev) (n:=1048603) (x.events.take j) (wr5 x) fun a y hy=>by
  have:=aus a y
  have:=hs.evs y (nV hy)
  omega
 have h0:=aut x hs h1 h2
 have h4:(x.events.take j).length<=32:=by rw[Lg];omega
 have h5:1048603*(x.events.take j).length<=1048603*32:=LH _ h4
 omega
theorem auu(x:Rep)(hs:ain x)(h1:x.results.length<=16)(h2:x.names.length<=4096)(h3:x.events.length<=32):(wr6 x).1.length<=5000000000:=by
 have:=aob x hs h1 h2 h3 x.events.length
 rw[List.take_length]at this
 exact this
theorem amS:∀ (l:List (Str×Int)) {a:Str},(∀y∈l,qK y.2=true/\y.1.length<4611686018427387904)->l.foldl abY (a,false)=(a++ajr l,false)
 | [],a,_=>by simp[ajr]
 | y::l,a,h=>by
  obtain⟨h1,h2⟩:=h y z8
  rw[nh]
  have:abY (a,false) y=(a++(pQ y.1++qY y.2.toNat),false):=by
   unfold abY;rw[agL h2,xC h1,nk]
  rw[this,amS l fun z hz=>h z (by simp[hz])]
  unfold ajr
  simp
theorem aoc:∀ (l:List (Int×Int×Str)) {a:Str},(∀y∈l,(qK y.1=true/\qK y.2.1=true)/\y.2.2.length<4611686018427387904)->l.foldl wev (a,false)=(a++ajs l,false)
 | [],a,_=>by simp[ajs]
 | y::l,a,h=>by
  obtain⟨⟨h1,h2⟩,h3⟩:=h y z8
  rw[nh]
  have:wev (a,false) y=(a++(qY y.1.toNat++(qY y.2.1.toNat++pQ y.2.2)),false):=by
   unfold wev;rw[xC h1,xC h2,agL h3];simp
  rw[this,aoc l fun z hz=>h z (by simp[hz])]
  unfold ajs
  simp
theorem amf{f:Str×Bool->α->Str×Bool}(hb:∀ a y,a.2=true->(f a y).2=true){p:α->Prop}(hn:∀ a y,¬p y->(f a y).2=true):∀ (l:List α) {a:Str×Bool},(¬ ∀y∈l,p y)->(l.foldl f a).2=true
 | [],_,h=>mu (fun y hy=>by cases hy) h
 | y::l,a,h=>by
  rw[nh]
  by_cases c:p y
  .refine amf hb hn l fun hall=>h fun z hz=>?_
   rcases mq.1 hz with rfl | hz
   .exact c
   .exact hall z hz
  .exact aio hb l (hn a y c)
theorem abZ{n:Int}(h:¬ qK n=true):qK n=false:=by simpa using h
theorem as6{l:List α}(h:l.length<=n)(hn:n<4611686018427387904):qK (l.length:Int)=true:=by rw[afG];omega
theorem aod(a:Str×Bool)(y:Str×Int)(h:a.2=true):(abY a y).2=true:=by unfold abY;exact jH (ahw h)
theorem apz(a:Str×Bool)(y:Int×Int×Str)(h:a.2=true):(wev a y).2=true:=by unfold wev;exact ahw (jH (jH h))
theorem aoe(h:aeb x)(hs:ain x):afq x=(ajt x,false):=by
 obtain⟨h1,h2,h3,h4,h5,c1,c2,c3,c4,c5,c6,c7,h6,h7⟩:=h
 have e1:wr1 x=(qY x.code.toNat++qY x.session.toNat++qY x.results.length,false):=by
  unfold wr1
  simp only[nh,LC]
  rw[xC c1,xC c2,xC (as6 h1 y0),mr];simp
 have e2:=amS x.results (a:=qY x.code.toNat++qY x.session.toNat++qY x.results.length) fun y hy=>⟨h6 y hy,by have:=hs.res y hy;omega⟩
 have cb:qK (x.bad+1)=true:=by rw[afG];omega
 unfold afq wr6 wr5 wr4 wr3 wr2
 rw[e1,e2,xC cb,agL (by have:=hs.data;omega)]
 simp only[nh,LC]
 rw[xC c3,xC c4,xC c5,xC c6,xC (as6 h2 y0),mr,alw x.names fun y hy=>by have:=hs.names y hy;omega]
 rw[xC (as6 h3 y0),mr,aoc x.events fun y hy=>⟨h7 y hy,by have:=hs.evs y hy;omega⟩,xC c7]
 unfold ajt
 simp only[nk,nx]
theorem auv(h:¬ aeb x)(h1:x.results.length<=16)(h2:x.names.length<=4096)(h3:x.events.length<=32)(h5:x.bad<4611686018427387903):(afq x).2=true:=by
 have f6:(wr6 x).2=true->(afq x).2=true:=fun k=>jH k
 have f5:(wr5 x).2=true->(afq x).2=true:=fun k=>f6 (aio apz _ k)
 have f4:(wr4 x).2=true->(afq x).2=true:=fun k=>f5 (jH (alv _ k))
 have f3:(wr3 x).2=true->(afq x).2=true:=fun k=>f4 (amQ _ k)
 have f2:(wr2 x).2=true->(afq x).2=true:=fun k=>f3 (ahw (jH k))
 have f1:(wr1 x).2=true->(afq x).2=true:=fun k=>f2 (aio aod _ k)
 by_cases c1:qK x.code=true
 .by_cases c2:qK x.session=true
  .by_cases c3:∀ y∈x.results,qK y.2=true
   .by_cases c4:qK (x.bad+1)=true
    .by_cases c5:qK x.ver=true
     .by_cases c6:qK x.ctr=true
      .by_cases c7:qK x.own=true
       .by_cases c8:qK x.kids=true
        .by_cases c9:∀ y∈x.events,qK y.1=true/\qK y.2.1=true
         .by_cases c10:qK x.epoch=true
          .have:=afG.1 c4
           exact mu ⟨h1,h2,h3,z7,h5,c1,c2,c5,c6,c7,c8,c10,c3,c9⟩ h
          .exact aaw (abZ c10)
         .refine f6 (amf (p:=fun y:Int×Int×Str=>qK y.1=true/\qK y.2.1=true) apz (fun a y hy=>?_) _ c9)
          unfold wev
          refine ahw ?_
          by_cases d:qK y.1=true
          .exact aaw (abZ fun e=>hy ⟨d,e⟩)
          .exact jH (aaw (abZ d))
        .exact f4 (jH (aaw (abZ c8)))
       .exact f4 (jH (jH (aaw (abZ c7))))
      .exact f4 (jH (jH (jH (aaw (abZ c6)))))
     .exact f4 (jH (jH (jH (jH (aaw (abZ c5))))))
    .exact f3 (ahw (aaw (abZ c4)))
   .refine f2 (amf (p:=fun y:Str×Int=>qK y.2=true) aod (fun a y hy=>?_) _ c3)
    unfold abY
    exact aaw (abZ hy)
  .exact f1 (jH (aaw (abZ c2)))
 .exact f1 (jH (jH (aaw (abZ c1))))
end Zt
namespace SL
open Go
section
variable{P:Program}{B:World}{ro:AH}{N:Nat}{ops:Array Oper}
theorem aof{cl:Nat->Nat}{K K':Fr->AH->Prop}(h:∀ fr I,jS B ro I->K fr I->K' fr I):∀ (l:List Nat) {fr:Fr} {I:AH},jS B ro I->qR P B ro N ops cl K l fr I->qR P B ro N ops cl K' l fr I
 | [],_,_,hl,hd=>h _ _ hl hd
 | x::l,_,_,hl,hd=>D1.mono hl (fun _ _ hl' hx=>aof h l hl' hx) hd
theorem amT{cl:Nat->Nat}{K:Fr->AH->Prop}{i:Nat}:∀ (l:List Nat),qR P B ro N ops cl K (l++[i])=qR P B ro N ops cl (D1 P B ro N ops cl i K) l
 | []=>rfl
 | x::l=>by
  funext fr I
  show D1 P B ro N ops cl x (qR P B ro N ops cl K (l++[i])) fr I=_
  rw[amT l];try rfl
theorem kl.more{ψ:AH}{o:Oper}{fr:Fr}{u:Value}(h:kl P ro aey ops o fr u):kl P (join ro ψ) aey ops o fr u:=by
 have key:∀ {α:Type} (s:Sem α) (a:α),qg P ro s aey=some a->qg P (join ro ψ) s aey=some a:=by
  intro α s
  induction s with
  | pure x=>intro a h;exact h
  | load m x k ih=>
   intro a h
   simp only[qg]at h⊢
   cases hc:qa ro aey x with
   | none=>rw[hc]at h;cases h
   | some v=>
    rw[hc]at h
    have:qa (join ro ψ) aey x=some v:=by
     unfold qa rd at hc⊢
     cases e:ro x.block with
     | none=>rw[e]at hc;simp[vw]at hc
     | some o=>rw[e]at hc;rw[xk e];exact hc
    rw[this];exact ih v a h
  | program k ih=>intro a h;exact ih _ a h
  | mark m k ih=>intro a h;exact ih a h
  | _=>intro a h;cases h
 unfold kl at h⊢
 split at h
 .exact fun O hρ=>key _ _ (h O hρ)
 .obtain⟨t,v,h1,h2,h3⟩:=h
  exact⟨t,v,h1,h2,h3.imp (fun⟨a,b⟩=>⟨a,fun O hρ=>key _ _ (b O hρ)⟩) id⟩
def aip(P:Program)(B:World)(ro ψ:AH)(N:Nat)(ops:Array Oper)(cl:Nat->Nat)(Q:Fr->AH->Prop)(l2:List Nat):Fr->AH->Prop:=fun fr I=> ∃fr',ze fr' fr/\(qJ ψ I->qR P B ro N ops cl Q l2 fr' (join ψ I))
theorem arI{φ ψ I:AH}{w:World}(hp:∀ b o,ψ b=some o->φ b=none/\ro b=none)(h:Own B (join ro ψ) φ I w):qJ ψ I/\jS B ro (join ψ I):=by
 obtain⟨g1,g2⟩:=h.unlend hp
 exact⟨g2,φ,w,g1⟩
theorem arJ{ψ I:AH}(hr:qJ ψ ro)(h:jS B (join ro ψ) I):qJ ψ I/\jS B ro (join ψ I):=by
 obtain⟨φ,w,h⟩:=h
 have h':Own B (join ro ψ) (fun _=>none) I w:=⟨h.os,h.tape,h.output,fun b o hs=>⟨(h.own b o hs).1,rfl,(h.own b o hs).2.2⟩,(fun _ _ e=>by cases e),h.ro⟩
 exact arI (fun b o hb=>⟨rfl,hr b o hb⟩) h'
theorem av2{cl:Nat->Nat}{Q:Fr->AH->Prop}(hK:abF Q){ψ:AH}(hr:qJ ψ ro){i:Nat}(h0:cl i=0){l1 pre post:List Nat}(hs1:∀ x∈l1,abG ops cl x i=true)(hs2:∀ x∈pre,abG ops cl x i=true){fr:Fr}{I:AH}(hl:jS B (join ro ψ) I)
  (h:qR P B (join ro ψ) N ops cl (aip P B ro ψ N ops cl Q (pre++i::post)) l1 fr I):D1 P B (join ro ψ) N ops cl i (qR P B (join ro ψ) N ops cl (aip P B ro ψ N ops cl Q (pre++post)) l1) fr I:=by
 have hC:∀ l,abF (aip P B ro ψ N ops cl Q l):=fun l fr fr' I he ⟨fr2,h1,h2⟩=>⟨fr2,fun i=>(h1 i).trans (he i),h2⟩
 have h1:qR P B (join ro ψ) N ops cl (D1 P B (join ro ψ) N ops cl i (aip P B ro ψ N ops cl Q (pre++post))) l1 fr I:=by
  refine aof ?_ l1 hl h
  rintro fr I hl ⟨fr',he,hd⟩
  obtain⟨g1,g2⟩:=arJ hr hl
  have hx:=ael (P:=P) (B:=B) (N:=N) hK post pre hs2 g2 (hd g1)
  show D1 P B (join ro ψ) N ops cl i _ fr I
  unfold qR D1 at hx
  unfold D1
  cases ho:ops[i]? with
  | none=>rw[ho]at hx;exact hx
  | some o=>
   rw[ho]at hx
   simp only[h0]at hx⊢
   obtain⟨k1,u,k2,k3⟩:=hx
   exact⟨k1,u,(k2.eq he).more,qw o.dst u fr',he.put _ _,fun _=>k3⟩
 rw[<-amT]at h1
 have:=ael (P:=P) (B:=B) (N:=N) (hC (pre++post)) [] l1 hs1 hl h1
 rw[ny]at this
 exact this
theorem aog{cl:Nat->Nat}{anc:List (Nat×Nat)}(ha:ahK ops anc=true)(hlt:∀ i,∀e∈ww ops i,e<i){Q:Exit->Fr->AH->Prop}(hK:abF (Q .normal)){φ ψ:AH}
  (hp:∀ b o,ψ b=some o->φ b=none/\ro b=none):
  ∀(m:Nat) (l1 l2:List Nat) (listed:Array Bool) {fr:Fr} {I:AH} {a:Act} {w:World},l1.length+l2.length=m->listed.size=ops.size->chk ops cl anc (l1++l2)=true->(∀j∈l2,cl j=0\/∀ i∈l1,i∈ww ops j\/(i,j)∈anc)->
   (∀i,i<ops.size->(listed.getD i true=false↔i∈l1++l2))->(∀i,i<ops.size->i∉l1++l2->∀ e∈ww ops i,e∉l1++l2)->
   qR P B (join ro ψ) N ops cl (aip P B ro ψ N ops cl (Q .normal) l2) l1 fr I->Own B (join ro ψ) φ I w->xo N fr a->wpAny P .any ops (ahG B ro N φ Q) m listed a w:=by
 have hC:∀ l,abF (aip P B ro ψ N ops cl (Q .normal) l):=fun l fr fr' I he ⟨fr2,h1,h2⟩=>⟨fr2,fun i=>(h1 i).trans (he i),h2⟩
 have nil:∀ (m:Nat) (l2:List Nat) (listed:Array Bool) {fr:Fr} {I:AH} {a:Act} {w:World},l2.length=m->listed.size=ops.size->chk ops cl anc l2=true->(∀i,i<ops.size->(listed.getD i true=false↔i∈l2))->(∀i,i<ops.size->i∉l2->∀ e∈ww ops i,e∉l2)->
   aip P B ro ψ N ops cl (Q .normal) l2 fr I->Own B (join ro ψ) φ I w->xo N fr a->wpAny P .any ops (ahG B ro N φ Q) m listed a w:=by
  intro m l2 listed fr I a w hn hsz hc hli hcl h ho hf
  obtain⟨fr',he,hd⟩:=h
  obtain⟨g1,g2⟩:=ho.unlend hp
  exact acC ha hlt hK m l2 listed hn hsz hc hli hcl (hd g2) g1 ⟨hf.size,hf.defers,fun i v hi=>hf.has i v (by rw[<-he i];exact hi)⟩
 intro m
 induction m with
 | zero=>
  intro l1 l2 listed fr I a w hn hsz hc haft hli hcl h ho hf
  obtain rfl:l1=[]:=List.length_eq_zero_iff.1 z7
  exact nil 0 l2 listed (j2 hn) hsz hc hli hcl h ho hf
 | succ m ih=>
  intro l1 l2 listed fr I a w hn hsz hc haft hli hcl h ho hf
  by_cases hnil:l1=[]
  .subst hnil
   exact nil (m+1) l2 listed (j2 hn) hsz hc hli hcl h ho hf
  obtain⟨l,hl⟩:∃ l,l=l1++l2:=⟨_,rfl⟩
  rw[<-hl]at hc hli hcl
  have hlist:∀ e,e<ops.size->e∉l->listed.getD e false=true:=by
   intro e he hne
   have h1:¬ listed.getD e true=false:=fun q=>hne ((hli e he).1 q)
   have hlt':e<listed.size:=by omega
   simp only[mS,Array.getElem?_eq_getElem hlt',Option.getD_some]at h1⊢
   simpa using h1
  refine⟨?_,?_⟩
  .intro hr
   exfalso
   cases l with
   | nil=>have:=mh List.length hl;simp at this;omega
   | cons x rest=>
    have hx:=aeP hc x (List.mem_cons_self ..)
    have:x∈Region.ready .any ops listed:=by
     refine aeO.2 ⟨hx.1,(hli x hx.1).2 (List.mem_cons_self ..),ops[x],by simp[hx.1],?_⟩
     intro e he
     have he':e∈ww ops x:=by simp[ww,hx.1];exact he
     simp only[chk,mw]at hc
     have h1:=mD.1 hc.1.1.1.1 e he'
     simp only[mw,mP,Bool.not_eq_true',List.contains_iff_mem,<-nM]at h1
     exact hlist e (by have:=h1.1;omega) h1.2
    rw[hr]at this;cases this
  .intro i hi
   obtain⟨h1,h2,o,hoi,h3⟩:=aeO.1 hi
   have hil:=(hli i h1).1 h2
   have hedge0:∀ e∈ww ops i,e∉l:=by
    intro e he hm
    have he2:e∈akV o:=by simpa [ww,hoi]using he
    have h4:=h3 e he2
    have hlt':=(aeP hc e hm).1
    have:=(hli e hlt').2 hm
    have hs:e<listed.size:=by omega
    simp only[mS,Array.getElem?_eq_getElem hs,Option.getD_some]at this h4
    rw[this]at h4;cases h4
   have hanc:∀ x∈l,(x,i)∉anc:=fun x hxl h5=>by
    have hcl':∀ j,(j<ops.size->j∉l)->∀ e∈ww ops j,(e<ops.size->e∉l):=by
     intro j hj e he hes
     by_cases hjs:j<ops.size
     .exact hcl j hjs (hj hjs) e he
     .simp[ww,Array.getElem?_eq_none (Nat.le_of_not_lt hjs)]at he
    exact mu hxl (akW (L:=fun j=>j<ops.size->j∉l) ha hlt hcl' x i (fun e he _=>hedge0 e he) h5 (aeP hc x hxl).1)
   have book:∀ pre post,l=pre++i::post->(∀x∈pre,abG ops cl x i=true)/\chk ops cl anc (pre++post)=true/\(∀j,j<ops.size->((listed.setIfInBounds i true).getD j true=false↔j∈pre++post))/\(∀j,j<ops.size->j∉pre++post->∀ e∈ww ops j,e∉pre++post):=by
    intro pre post hlp
    have hc0:=hc
    rw[hlp]at hc0
    have hpass:∀ x∈pre,abG ops cl x i=true:=by
     have gen:∀ (p:List Nat),chk ops cl anc (p++i::post)=true->∀ x∈p,abG ops cl x i=true\/x∈ww ops i\/(x,i)∈anc:=by
      intro p
      induction p with
      | nil=>intro _ x hx;cases hx
      | cons y p ihp=>
       intro hc x hx
       simp only[nb,chk,mw]at hc
       rcases mq.1 hx with rfl | hx
       .have:=mD.1 hc.1.2 i z8
        simp only[Bool.or_eq_true,List.contains_iff_mem]at this
        rcases this with(h | h) | h
        .exact .inl h
        .exact .inr (.inl h)
        .exact .inr (.inr h)
       .exact ihp hc.2 x hx
     intro x hx
     have hxm:x∈l:=by rw[hlp];exact Ld _ hx
     rcases gen pre hc0 x hx with h | h | h
     .exact h
     .exact mu hxm (hedge0 x h)
     .exact mu h (hanc x hxm)
    have hnd:i∉pre++post:=by
     have:(pre++i::post).Nodup:=by
      have gen:∀ l:List Nat,chk ops cl anc l=true->l.Nodup:=by
       intro l
       induction l with
       | nil=>intro _;exact List.nodup_nil
       | cons y r ihr=>
        intro hc
        simp only[chk,mw,Bool.not_eq_true']at hc
        refine nl.2 ⟨?_,ihr hc.2⟩
        have:=hc.1.1.1.2
        intro hm;rw[List.contains_iff_mem.2 hm]at this;cases this
      exact gen _ hc0
     have:=(List.perm_middle (a:=i) (l₁:=pre) (l₂:=post)).nodup_iff.1 this
     exact(nl.1 this).1
    have hc':chk ops cl anc (pre++post)=true:=by
     have gen:∀ (p:List Nat),chk ops cl anc (p++i::post)=true->chk ops cl anc (p++post)=true:=by
      intro p
      induction p with
      | nil=>intro hc;simp only[nx,chk,mw]at hc;exact hc.2
      | cons y p ihp=>
       intro hc
       simp only[nb,chk,mw]at hc⊢
       obtain⟨⟨⟨⟨c1,c2⟩,c3⟩,c4⟩,c5⟩:=hc
       refine⟨⟨⟨⟨?_,?_⟩,c3⟩,?_⟩,ihp c5⟩
       .refine mD.2 fun e he=>?_
        have:=mD.1 c1 e he
        simp only[mw,Bool.not_eq_true',<-nM,List.contains_iff_mem]at this⊢
        refine⟨this.1,fun hm=>this.2 ?_⟩
        simp only[mq,mt]at hm⊢
        rcases hm with h | h | h
        .exact .inl h
        .exact .inr (.inl h)
        .exact .inr (.inr (.inr h))
       .simp only[Bool.not_eq_true',<-nM,List.contains_iff_mem]at c2⊢
        intro hm;apply c2
        simp only[mt,mq]at hm⊢
        exact hm.imp id .inr
       .refine mD.2 fun j hj=>mD.1 c4 j ?_
        simp only[mt,mq]at hj⊢
        exact hj.imp id .inr
     exact gen pre hc0
    have hmem:∀ j,j∈pre++post↔j∈l/\j≠i:=by
     intro j
     rw[hlp]
     simp only[mt,mq]
     constructor
     .intro(hh:j∈pre\/j∈post)
      refine⟨hh.imp id .inr,fun e=>?_⟩
      subst e;exact hnd (mt.2 hh)
     .rintro⟨h | h | h,hne⟩
      .exact .inl h
      .exact mu h hne
      .exact .inr h
    refine⟨hpass,hc',fun j hj=>?_,fun j hj hjn e he hm=>?_⟩
    .rw[hmem]
     by_cases e:j=i
     .subst e
      have:j<listed.size:=by omega
      simp[mS,this]
     .rw[acC.Region_getD_set e]
      constructor
      .intro h;exact⟨(hli j hj).1 h,e⟩
      .intro h;exact(hli j hj).2 h.1
    .have hm':=((hmem e).1 hm).1
     by_cases e':j=i
     .subst e';exact hedge0 e he hm'
     .exact hcl j hj (fun hh=>hjn ((hmem j).2 ⟨hh,e'⟩)) e he hm'
   rw[hl]at hil
   rcases mt.1 hil with hi1 | hi2
   .obtain⟨pre,post1,rfl⟩:=List.append_of_mem hi1
    obtain⟨b1,b2,b3,b4⟩:=book pre (post1++l2) (by rw[hl];simp)
    rw[<-nk]at b2 b3 b4
    have hd:=ael (P:=P) (B:=B) (N:=N) (hC l2) post1 pre b1 ⟨φ,w,ho⟩ h
    refine acC.D1.sound hoi hd ho hf fun fr I a w hk ho hf=>ih (pre++post1) l2 _ ?_ (j2 hsz) b2 (fun j hj=>?_) b3 b4 hk ho hf
    .simp at hn ⊢;omega
    .exact(haft j hj).imp id fun h x hx=>h x (by simp only[mt,mq]at hx ⊢;exact hx.imp id .inr)
   .have h0:cl i=0:=by
     rcases haft i hi2 with h | h
     .exact h
     .exfalso
      cases l1 with
      | nil=>exact hnil rfl
      | cons x r=>
       have hxl:x∈l:=by rw[hl];exact Ld _ (List.mem_cons_self ..)
       rcases h x (List.mem_cons_self ..)with h5 | h5
       .exact hedge0 x h5 hxl
       .exact hanc x hxl h5
    obtain⟨pre,post,rfl⟩:=List.append_of_mem hi2
    obtain⟨b1,b2,b3,b4⟩:=book (l1++pre) post (by rw[hl];simp)
    rw[nk]at b2 b3 b4
    have hr:qJ ψ ro:=fun b o hb=>(hp b o hb).2
    have hd:=av2 (P:=P) (B:=B) (N:=N) hK hr h0 (fun x hx=>b1 x (Ld _ hx)) (fun x hx=>b1 x (List.mem_append_right _ hx)) ⟨φ,w,ho⟩ h
    refine acC.D1.sound hoi hd ho hf fun fr I a w hk ho hf=>ih l1 (pre++post) _ ?_ (j2 hsz) b2 (fun j hj=>haft j (by simp only[mt,mq]at hj ⊢;exact hj.imp id .inr)) b3 b4 hk ho hf
    simp at hn ⊢;omega
def avi(ops:Array Oper)(cl:Nat->Nat)(anc:List (Nat×Nat))(l1 l2:List Nat):Bool:=l2.all fun j=>cl j == 0 || l1.all fun i=>(ww ops j).contains i || anc.contains (i,j)
theorem AW.drawn2{id:Nat}{Q:Exit->Fr->AH->Prop}{fr:Fr}{I:AH}{K:AH->AH->Prop}(cl:Nat->Nat)(anc:List (Nat×Nat))(l1 l2:List Nat)(hm:P.follows .mixedOrders=true)(hl:uh I K)
  (hc:(chk ops cl anc (l1++l2) && ahK ops anc && full ops.size (l1++l2) && ((l1++l2).length == ops.size) && avi ops cl anc l1 l2)=true)
  (h:∀ ψ τ,K ψ τ->qR P B (join ro ψ) N ops cl (fun fr I=> ∃fr',ze fr' fr/\(qJ ψ I->qR P B ro N ops cl (fun fr I=> ∃fr',ze fr' fr/\Q .normal fr' I) l2 fr' (join ψ I))) l1 fr τ):AW P B ro N (.region id ops true) Q fr I:=by
 obtain⟨ψ,τ,hd,rfl,hk⟩:=hl
 have h:=h ψ τ hk
 simp only[mw,beq_iff_eq]at hc
 obtain⟨⟨⟨⟨c1,c2⟩,c3⟩,c4⟩,c5⟩:=hc
 intro φ w a ho hf
 refine wp_region_any hm ?_
 have hp:∀ b o,ψ b=some o->φ b=none/\ro b=none:=fun b o hs=>(ho.own b o (xk hs)).2
 have hall:∀ i,i<ops.size->i∈l1++l2:=fun i hi=>List.contains_iff_mem.1 (mD.1 c3 i (List.mem_range.2 hi))
 have hlt:∀ i,∀e∈ww ops i,e<i:=by
  intro i e he
  by_cases hi:i<ops.size
  .exact(aeP c1 i (hall i hi)).2 e he
  .simp[ww,Array.getElem?_eq_none (Nat.le_of_not_lt hi)]at he
 have hw:Own B (join ro ψ) φ τ {w with drawn:=w.drawn+1}:=(ho.lend hd).drawn _
 have haft:∀ j∈l2,cl j=0\/∀ i∈l1,i∈ww ops j\/(i,j)∈anc:=fun j hj=>by
  have:=mD.1 c5 j hj
  simp only[Bool.or_eq_true,beq_iff_eq]at this
  refine this.imp (fun x=>x) fun h i hi=>?_
  have:=mD.1 h i hi
  simpa using this
 have:=aog (P:=P) (B:=B) (ro:=ro) (N:=N) (ops:=ops) (cl:=cl) (anc:=anc) c2 hlt
  (Q:=fun e fr I=>e= .normal/\∃ fr',ze fr' fr/\Q .normal fr' I)
  (fun fr fr' I he ⟨h0,fr2,h1,h2⟩=>⟨h0,fr2,fun i=>(h1 i).trans (he i),h2⟩) (φ:=φ) (ψ:=ψ) hp (l1.length+l2.length) l1 l2 (Array.replicate ops.size false)
  (w:={w with drawn:=w.drawn+1}) (a:=a) (fr:=fr) (I:=τ) rfl z8 c1 haft
  (fun i hi=>⟨fun _=>hall i hi,fun _=>by simp[hi]⟩) (fun i hi hn=>mu (hall i hi) hn) ?_ hw hf
 .have hlen:l1.length+l2.length=ops.size:=by rw[<-mW];exact c4
  rw[hlen]at this
  refine AW.drawn.wpAny_post ?_ _ _ this
  rintro e a' w' ⟨fr',I',⟨rfl,fr2,he,hq⟩,ho',hf'⟩
  exact⟨fr2,_,hq,ho',⟨hf'.size,hf'.defers,fun i v hi=>hf'.has i v (by rw[<-he i];exact hi)⟩⟩
 .refine AW.drawn.DOps_post ?_ l1 h
  rintro fr I ⟨fr',h1,h2⟩;refine⟨fr',h1,fun hd=>AW.drawn.DOps_post ?_ l2 (h2 hd)⟩
  intro fr I hk;exact⟨rfl,hk⟩
end