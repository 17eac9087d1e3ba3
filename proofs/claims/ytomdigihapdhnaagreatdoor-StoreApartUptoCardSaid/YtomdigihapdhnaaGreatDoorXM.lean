import Derived.Test.YtomdigihapdhnaaGreatDoorXL
set_option linter.all false
set_option maxRecDepth 99999
set_option maxHeartbeats 0
open Go.IntKind(i64)
namespace Go.Proofs.YtomdigihapdhnaaGreatDoor
namespace Zt
open Go SL Pa Wi
variable{h:Hub}{kind n owner qb qn req:Int}{o:MOp}{b:Nat}{x:Rep}{st:St}{s:Sto}{d home p:Str}{k:Str×Int}{t:Tbl}{m:kN}{c:wM}
def avp:okN n=true↔1<=n/\n<=4611686018427387903:=by unfold okN;simp
def agG{k:Str}{h:xL}(i:vV b t)(hk:qj t k=some h):wb k=true/\aeV b h:=i.ok _ (xt hk)
def amc(i:vV b t)(k:Str):aeV b (qP t k):=by
 unfold qP
 cases e:qj t k with
 | none=>exact⟨⟨by show(0:Int)<=0;omega,by show(0:Int)<=b;omega⟩,List.nodup_nil,(fun p h=>by cases h),List.nodup_nil,Nat.zero_le _,fun p h=>by cases h⟩
 | some h=>exact(agG i e).2
def am2{k:Str}{h:xL}(i:vV b t)(hn:wb k=true)(hh:aeV b h)(hl:(qj t k).isSome=true\/t.length+1<=b):vV b (wR t k h):=by
 refine⟨aiO i.keys,fun p hp=>?_,?_⟩
 .rcases aiP hp with rfl | hp
  .exact⟨hn,hh⟩
  .exact i.ok p hp
 .rw[alo]
  have:=i.len
  split
  .exact this
  .rename_i hm
   rw[<-xK]at hm
   rcases hl with hl | hl
   .rw[hm]at hl;cases hl
   .exact hl
def asv{nonce lease:Int}(i:vV b t):vV (b+1) (wX t home nonce lease).1:=by
 unfold wX
 split
 .exact i.mono z7
 rename_i h1
 split
 .exact i.mono z7
 rename_i h2
 split
 .exact i.mono z7
 rename_i h3
 split
 .exact i.mono z7
 rename_i h4
 split
 .exact i.mono z7
 rename_i h5
 simp only[Bool.not_eq_false]at h1 h2
 obtain⟨a1,a2,a3,a4,a5,a6⟩:=amc i home
 have hnk:qj (qP t home).live ((qP t home).last+1)=none:=by
  rw[xK]
  intro hm
  obtain⟨p,hp,e⟩:=mN.1 hm
  have:=(a3 p hp).2
  omega
 refine am2 (i.mono z7) h1 ?_ (.inr (by have:=i.len;omega))
 unfold aow
 rw[alf _ hnk]
 simp only[not_or]at h5
 have hnn:∀ p∈(qP t home).live,p.2.nonce≠nonce:=fun p hp e=>by
  unfold ag6 at h4
  have:=List.find?_eq_none.1 h4 p hp
  simp[e]at this
 refine⟨by simp only;omega,?_,fun p hp=>?_,?_,j2,fun p hp=>?_⟩
 .simp only
  rw[my,List.nodup_append]
  rw[xK]at hnk
  exact⟨a2,y0,fun x hx y hy e=>hnk (by simp at hy;rw[<-hy,<-e];exact hx)⟩
 .rcases mv.1 hp with hp | hp
  .have:=a3 p hp;simp only;omega
  .rw[mr.1 hp];simp only;omega
 .simp only
  rw[my,List.nodup_append]
  refine⟨a4,y0,fun x hx y hy e=>?_⟩
  obtain⟨p,hp,rfl⟩:=mN.1 hx
  simp at hy
  exact hnn p hp (by rw[e,hy])
 .rcases mv.1 hp with hp | hp
  .exact(a6 p hp).mono z7
  .rw[mr.1 hp]
   exact⟨h2,(by show 1<=lease/\lease<=1048576;omega),⟨by show(0:Int)<=0;omega,by show(0:Int)<=((b+1:Nat):Int);omega⟩,⟨by show(0:Int)<=0;omega,by show(0:Int)<=4611686018427387903;omega⟩,Nat.zero_le _⟩
def af6{e:Int}{s:yf}(h:xM t k=(e,some s)):e=0/\∃ hs,qj t k.1=some hs/\1<=k.2/\k.2<=hs.last/\qj hs.live k.2=some s:=by
 unfold xM at h
 split at h
 .cases h
 .rename_i hs e1
  split at h
  .cases h
  .rename_i e2
   split at h
   .cases h
   .rename_i s' e3
    cases h
    exact⟨rfl,hs,e1,z7,z7,e3⟩
def pK(t:Tbl)(k:Str×Int):(∃s,xM t k=(0,some s))\/∃ e,(e=150\/e=151)/\xM t k=(e,none):=by
 unfold xM
 split
 .exact .inr ⟨150,.inl rfl,rfl⟩
 .split
  .exact .inr ⟨150,.inl rfl,rfl⟩
  .split
   .exact .inr ⟨151,.inr rfl,rfl⟩
   .exact .inl ⟨_,rfl⟩
def ao3{s s':yf}(i:vV b t)(hf:xM t k=(0,some s))(hn:s'.nonce=s.nonce)(hs:ahY b s'):vV b (aet t k s'):=by
 obtain⟨_,hh,h1,h2,h3,h4⟩:=af6 hf
 unfold aet
 rw[h1]
 obtain⟨hk,a1,a2,a3,a4,a5,a6⟩:=agG i h1
 refine am2 i hk ?_ (.inl (by rw[h1];try rfl))
 have hmem:=xt h4
 obtain⟨j,hj,ej⟩:=ni hmem
 have hj':hh.live[j]?=some (k.2,s):=by rw[md hj,ej]
 refine⟨a1,aiO a2,fun p hp=>?_,?_,by simp only;rw[apG h4];exact a5,fun p hp=>?_⟩
 .rcases aiP hp with rfl | hp
  .exact⟨h2,h3⟩
  .exact a3 p hp
 .simp only
  rw[agz s' a2 hj']
  have:(hh.live.set j (k.2,s')).map (·.2.nonce)=hh.live.map (·.2.nonce):=by
   apply nJ
   intro x
   rw[List.map_set,nP,mh]
   by_cases e:j=x
   .subst e;rw[hj'];simp[hj,hn]
   .rw[ma e]
  rw[this];exact a4
 .rcases aiP hp with rfl | hp
  .exact hs
  .exact a6 p hp
def ahZ{s:yf}(i:vV b t)(hf:xM t k=(0,some s)):ahY b s:=by
 obtain⟨_,hh,h1,h2,h3,h4⟩:=af6 hf
 exact(agG i h1).2.ok _ (xt h4)
def aiR(i:vV b t):vV b (adL t k):=by
 unfold adL
 split
 .exact i
 rename_i hh h1
 obtain⟨hk,a1,a2,a3,a4,a5,a6⟩:=agG i h1
 refine am2 i hk ?_ (.inl (by rw[h1];try rfl))
 have hsub:(jt hh.live k.2).Sublist hh.live:=aiQ
 exact⟨a1,List.Nodup.sublist (hsub.map _) a2,fun p hp=>a3 p (hsub.subset hp),List.Nodup.sublist (hsub.map _) a4,by have:=hsub.length_le;simp only;omega,fun p hp=>a6 p (hsub.subset hp)⟩
def arc(i:vV b t):vV (b+1) (aaL t k).1:=by
 unfold aaL
 rcases pK t k with⟨s,e⟩ | ⟨x,_,e⟩
 .rw[e]
  have hs:=ahZ i e
  exact ao3 (i.mono z7) e rfl ⟨hs.nonce,hs.lease,by have:=hs.beats;simp only;omega,hs.req,hs.reply⟩
 .rw[e];exact i.mono z7
def at0(i:vV b t)(hd:d.length<=1048576):vV b (acV t k req d).1:=by
 unfold acV
 rcases pK t k with⟨s,e⟩ | ⟨x,_,e⟩
 .rw[e]
  have hs:=ahZ i e
  simp only
  split
  .exact i
  .rename_i hn
   split
   .exact i
   .simp only[Bool.not_eq_false]at hn
    have:=avp.1 hn
    exact ao3 i e rfl ⟨hs.nonce,hs.lease,hs.beats,by simp only;omega,hd⟩
 .rw[e];exact i
def ae8(i:vV b t):vV b (vu t k n).1:=by
 unfold vu
 rcases pK t k with⟨s,e⟩ | ⟨x,_,e⟩
 .rw[e]
  simp only
  split
  .exact aiR i
  .exact i
 .rw[e];exact i
def acH(i:vV b t):vV b (yz t k).1:=by
 unfold yz
 rcases pK t k with⟨s,e⟩ | ⟨x,_,e⟩
 .rw[e];exact aiR i
 .rw[e];exact i
def aqm{d:xR}(i:ku b h)(hd:aaO b k d)(hl:(qj h k).isSome=true\/h.length+1<=b):ku b (wR h k d):=by
 refine⟨aiO i.keys,fun p hp=>?_,?_⟩
 .rcases aiP hp with rfl | hp
  .exact hd
  .exact i.ok p hp
 .rw[alo]
  have:=i.len
  split
  .exact this
  .rename_i hm
   rw[<-xK]at hm
   rcases hl with hl | hl
   .rw[hm]at hl;cases hl
   .exact hl
def asw(i:ku b h)(k:Str×Int):aaO b k (zV h k):=by
 unfold zV
 cases e:qj h k with
 | none=>exact⟨by show 0+0<=32;omega,⟨by show(0:Int)<=0;omega,by show(0:Int)+(0:Nat)<=b;omega⟩,(fun p h=>by cases h),⟨by show(0:Int)<=0;omega,by show(0:Int)<=0;omega⟩,List.nodup_nil,fun p h=>by cases h⟩
 | some d=>exact i.ok _ (xt e)
def ao4(i:ku b h):ku (b+1) (xH h k m).1:=by
 unfold xH
 split
 .exact i.mono z7
 rename_i h1
 simp only[Ld]at h1
 split
 .exact i.mono z7
 rename_i h2
 obtain⟨a1,a2,a3,a4,a5,a6⟩:=asw i k
 refine aqm (i.mono z7) ?_ (.inr (by have:=i.len;omega))
 unfold atY
 by_cases c:m∈(zV h k).marks
 .rw[mc c]
  exact⟨a1,by simp only;omega,a3,a4,a5,a6⟩
 .rw[ma c]
  simp only[not_and]at h2
  have:=h2 c
  refine⟨j2,j2,a3,a4,?_,fun x hx=>?_⟩
  .simp only
   rw[List.nodup_append]
   exact⟨a5,y0,fun x hx y hy e=>c (by simp at hy;rw[<-hy,<-e];exact hx)⟩
  .rcases mv.1 hx with hx | hx
   .exact a6 x hx
   .rw[mr.1 hx];exact h1
def at2{h:Str}(hh:qq p=some h):p.length<=128:=by
 unfold qq at hh
 split at hh
 .rename_i x r e
  obtain⟨e1,e2⟩:=qZ.1 e
  rw[e1];exact e2.len
 .cases hh
def at3(h:abo k m=0):m.1.length<=128:=at2 (akY h).1
def at4{d:xR}(i:aaO b k d)(hk:1<=kind/\kind<=4):aaO b k (uR m kind d):=by
 unfold uR
 split
 .rename_i hm
  obtain⟨a1,a2,a3,a4,a5,a6⟩:=i
  have hl:=List.length_erase_of_mem hm
  have hp:=List.length_pos_of_mem hm
  unfold am1
  refine⟨j2,by simp only;omega,fun e he=>?_,by simp only;omega,a5.erase _,fun x hx=>a6 x (List.mem_of_mem_erase hx)⟩
  rcases mv.1 he with he | he
  .have:=a3 e he
   exact⟨by simp only;omega,this.2⟩
  .rw[mr.1 he]
   exact⟨by simp only;omega,by simp only;omega,at3 (a6 m hm)⟩
 .exact i
def adM(i:ku b h)(hk:1<=kind/\kind<=4):ku b (yS h m kind):=by
 unfold yS
 refine⟨by rw[Lh];exact i.keys,fun p hp=>?_,by rw[mg];exact i.len⟩
 obtain⟨q,hq,rfl⟩:=mN.1 hp
 exact at4 (i.ok q hq) hk
def at5{e:Int×Str}(i:ku b h):ku b (aa8 h e):=by
 unfold aa8
 split
 .exact i
 .split
  .exact i
  .rename_i hc
   have i1:ku b (yS h (e.2,1) e.1):=adM i z7
   simp only
   split
   .split
    .exact adM (adM i1 z7) z7
    .exact adM i1 z7
   .split
    .exact adM i1 z7
    .exact i1
def aiS:∀ (l:List (Int×Str)) {h:Hub},ku b h->ku b (yn h l)
 | [],_,i=>i
 | e::l,_,i=>aiS l (at5 i)
def alp(i:ku b h):ku b (jt h k):=
 ⟨List.Nodup.sublist (aiQ.map _) i.keys,fun p hp=>i.ok p (aiQ.subset hp),LA aiQ.length_le i.len⟩
def uB(i:ku b h):ku b (yg h k n).1:=by
 unfold yg
 split
 .exact i
 .rename_i d hd
  split
  .exact i
  .rename_i hc
   have hd0:aaO b k d:=i.ok _ (xt hd)
   obtain⟨a1,a2,a3,a4,a5,a6⟩:=hd0
   refine aqm i ?_ (.inl (by rw[hd];try rfl))
   have hl:=List.length_filter_le (fun e:Int×Int×Str=> !decide (e.1<=n)) d.events
   refine⟨?_,a2,fun e he=>a3 e (Le.1 he).1,?_,a5,a6⟩
   .show(d.events.filter _).length+d.marks.length<=32
    omega
   .show 0<=max d.acked n/\max d.acked n<=d.last
    omega
def pC:qr n=true↔0<=n/\n<=4611686018427387903:=by unfold qr;simp
def anF(h:qr n=true):((n.toNat:Nat):Int)=n/\n.toNat<4611686018427387904:=by
 have:=pC.1 h;omega
def alq(r:Rd):(rnum r).1<4611686018427387904:=by
 unfold rnum
 split
 .show 0<4611686018427387904;omega
 .exact(ar4 _).2
def yo(r:Rd):qr ((rnum r).1:Nat)=true:=by
 have:=alq r
 rw[pC];omega
def aqn:∀ (n:Nat) (r:Rd),(gres n r).1.length=n/\∀ y∈(gres n r).1,qr y.2=true:=by
 intro n
 induction n with
 | zero=>intro r;exact⟨rfl,fun y h=>by cases h⟩
 | succ n ih=>
  intro r
  obtain⟨i1,i2⟩:=ih (rnum (rblob r).2).2
  unfold gres
  refine⟨by simp[i1],fun y hy=>?_⟩
  rcases mp.1 hy with rfl | hy
  .exact yo _
  .exact i2 y hy
def asx:∀ (n:Nat) (r:Rd),(gnames n r).1.length=n:=by
 intro n
 induction n with
 | zero=>intro r;rfl
 | succ n ih=>intro r;unfold gnames;simp[ih]
def aqo:∀ (n:Nat) (r:Rd),(aev n r).1.length=n/\∀ y∈(aev n r).1,qr y.1=true/\qr y.2.1=true:=by
 intro n
 induction n with
 | zero=>intro r;exact⟨rfl,fun y h=>by cases h⟩
 | succ n ih=>
  intro r
  obtain⟨i1,i2⟩:=ih (rblob (rnum (rnum r).2).2).2
  unfold aev
  refine⟨by simp[i1],fun y hy=>?_⟩
  rcases mp.1 hy with rfl | hy
  .exact⟨yo _,yo _⟩
  .exact i2 y hy
def asy{b:Str}(h:uT b=some x):vv x:=by
 unfold uT at h
 split at h
 .cases h
 rename_i hc
 cases h
 simp only[not_or]at hc
 obtain⟨_,_,c1,c2,c3⟩:=hc
 have hbad:=alq (gres (min (rnum (rnum (rnum ⟨b,0⟩).2).2).1 16) (rnum (rnum (rnum ⟨b,0⟩).2).2).2).2
 unfold zP at c1 c2 c3⊢
 simp only at c1 c2 c3⊢
 unfold vv
 simp only
 refine⟨by rw[(aqn _ _).1];omega,by rw[asx];omega,by rw[(aqo _ _).1];omega,z7,z7,yo _,yo _,yo _,yo _,yo _,yo _,yo _,(aqn _ _).2,(aqo _ _).2⟩
structure ag7(x:Rep):Prop where
 data:x.data.length<=256
 res:∀ y∈x.results,y.1.length<=128
 names:∀ y∈x.names,y.length<=128
 evs:∀ y∈x.events,y.2.2.length<=128
def vlen(h:qr n=true):(qH n.toNat).length<=9:=(ub 8 n.toNat (by have:=(anF h).2;omega)).2
def aiT{n:Nat}(h:n<4611686018427387904):(qH n).length<=9:=(ub 8 n z7).2
def agH{m:Nat}(h:d.length<=m)(hm:m<4611686018427387904):(vR d).length<=9+m:=by
 unfold vR
 have:=aiT (n:=d.length) z7
 rw[mA];omega
def yc{α:Type}{f:α->Str}{n:Nat}:∀ {l:List α},(∀y∈l,(f y).length<=n)->(l.flatMap f).length<=n*l.length
 | [],_=>by simp
 | y::l,h=>by
  have h1:=yc (l:=l) fun z hz=>h z (by simp[hz])
  have h2:=h y y0
  rw[nE,mA,mz,Nat.mul_add]
  omega
def avq(h:vv x)(ht:ag7 x):(afp x).length<=1048576:=by
 obtain⟨h1,h2,h3,h4,h5,c1,c2,c3,c4,c5,c6,c7,h6,h7⟩:=h
 have e1:=vlen c1
 have e2:=vlen c2
 have e3:=vlen c3
 have e4:=vlen c4
 have e5:=vlen c5
 have e6:=vlen c6
 have e7:=vlen c7
 have e8:(qH (x.bad+1).toNat).length<=9:=aiT z7
 have e9:=aiT (n:=x.results.length) z7
 have e10:=aiT (n:=x.names.length) z7
 have e11:=aiT (n:=x.events.length) z7
 have e12:=agH ht.data y1
 have f1:(yA x.results).length<=146*x.results.length:=yc fun y hy=>by
  rw[mA]
  have:=vlen (h6 y hy)
  have:=agH (ht.res y hy) y1
  omega
 have f2:(x.names.flatMap vR).length<=137*x.names.length:=yc fun y hy=>by
  have:=agH (ht.names y hy) y1
  omega
 have f3:(jV x.events).length<=155*x.events.length:=yc fun y hy=>by
  rw[mA,mA]
  have:=vlen (h7 y hy).1
  have:=vlen (h7 y hy).2
  have:=agH (ht.evs y hy) y1
  omega
 unfold afp
 simp only[mA]
 omega
def aqp(ht:ag7 x):((vF x).getD []).length<=1048576:=by
 unfold vF
 split
 .rename_i h;exact avq h ht
 .simp
def at7(h:qQ b st)(hb:b<=4398046511103):(vT owner st o).2.1.length<=128/\0<=(vT owner st o).2.2.1/\(vT owner st o).2.2.1<=4398046511104:=by
 unfold vT
 split
 .rcases ahE st o.path o.data (if o.eph=true then owner else 0) o.seq with⟨e,_,he⟩ | ⟨q,u,n,he,_,_,_,_,hq,_⟩
  .rw[he];simp
  .rw[he]
   refine⟨?_,y0,y0⟩
   simp only
   unfold qw at hq
   cases hp:parts q with
   | none=>rw[hp]at hq;cases hq
   | some ps=>
    obtain⟨e1,e2⟩:=qZ.1 hp
    rw[e1];exact e2.len
 .split
  .exact⟨y0,y0,y0⟩
  .split
   .rcases ajQ st o.path o.data o.ver with⟨e,_,he⟩ | ⟨n,he,hn,_⟩
    .rw[he];simp
    .rw[he]
     have:=h.ver _ n hn
     have e:i64.wrap (n.ver+1)=n.ver+1:=SL.qY z7 z7
     simp only[e]
     exact⟨y0,z7,z7⟩
   .exact⟨y0,y0,y0⟩
def apH:∀ {os:List MOp} {i b:Nat} {w w':ph},zt home owner qn qb os i w= .inr w'->qQ b w.st->b+os.length<=4398046511103->(∀y∈w.res,y.1.length<=128/\0<=y.2/\y.2<=4398046511104)->
  (∀y∈w'.res,y.1.length<=128/\0<=y.2/\y.2<=4398046511104)/\w'.res.length=w.res.length+os.length:=by
 intro os
 induction os with
 | nil=>intro i b w w' h _ _ hr;cases h;exact⟨hr,rfl⟩
 | cons o os ih=>
  intro i b w w' h hi hb hr
  simp only[mz]at hb⊢
  unfold zt at h
  split at h
  .cases h
  .rename_i hc
   have h0:(doE home owner qn qb w o).1=0:=by simpa using hc
   have hre:(doE home owner qn qb w o).2.res=w.res++[((vT owner w.st o).2.1,(vT owner w.st o).2.2.1)]:=by
    unfold doE at h0⊢
    split at h0
    .rename_i hx;exact mt h0 hx
    .rename_i hx
     rw[ma hx]
     split at h0
     .rename_i hy;exact mt h0 hy
     .rename_i hy
      rw[ma hy]
      split at h0
      .cases h0
      .rename_i hz;rw[ma hz]
   obtain⟨k1,k2⟩:=ih h (aeT hi z7) z7 fun y hy=>by
    rw[hre]at hy
    rcases mv.1 hy with hy | hy
    .exact hr y hy
    .rw[mr.1 hy];exact at7 hi z7
   refine⟨k1,?_⟩
   rw[k2,hre];simp;omega
def avr{w:ph}:0<=(doE home owner qn qb w o).1/\(doE home owner qn qb w o).1<=100:=by
 have hw:0<=wT home o/\wT home o<=100:=by
  unfold wT
  split
  .omega
  .split
   .omega
   .split<;>omega
 have c1:∀ (st:St) p d o s,0<=(we st p d o s).2.2/\(we st p d o s).2.2<=100:=fun st p d o s=>by
  have h:(we st p d o s).2.2∈[(20:Int),75,10,70,74,76,71,0]:=by
   unfold we
   split
   .simp
   .split
    .simp
    .split
     .simp
     .split
      .simp
      .split
       .simp
       .split
        .simp
        .split
         .simp
         .split<;>simp
  simp only[mp,nj,or_false]at h
  omega
 have c2:∀ (st:St) p v,0<=(wo st p v).2/\(wo st p v).2<=100:=fun st p v=>by
  have h:(wo st p v).2∈[(20:Int),70,72,73,0]:=by
   unfold wo
   split
   .simp
   .split
    .simp
    .split
     .simp
     .split
      .simp
      .split<;>simp
  simp only[mp,nj,or_false]at h
  omega
 have c3:∀ (st:St) p d v,0<=(kn st p d v).2.2/\(kn st p d v).2.2<=100:=fun st p d v=>by
  have h:(kn st p d v).2.2∈[(20:Int),70,72,75,0]:=by
   unfold kn
   split
   .simp
   .split
    .simp
    .split
     .simp
     .split<;>simp
  simp only[mp,nj,or_false]at h
  omega
 have c4:∀ (st:St) p v,0<=afL st p v/\afL st p v<=100:=fun st p v=>by
  unfold afL
  split
  .omega
  .split<;>omega
 have hc:0<=(vT owner w.st o).2.2.2/\(vT owner w.st o).2.2.2<=100:=by
  unfold vT
  split
  .exact c1 _ _ _ _ _
  .split
   .exact c2 _ _ _
   .split
    .exact c3 _ _ _ _
    .exact c4 _ _ _
 unfold doE
 split
 .exact hw
 .split
  .exact hc
  .split
   .show(0:Int)<=81/\(81:Int)<=100;omega
   .show(0:Int)<=0/\(0:Int)<=100;omega
def ard:∀ {os:List MOp} {i:Nat} {w:ph} {x:Nat×Int},zt home owner qn qb os i w= .inl x->(0<=x.2/\x.2<=100)/\x.1<i+os.length:=by
 intro os
 induction os with
 | nil=>intro i w x h;cases h
 | cons o os ih=>
  intro i w x h
  unfold zt at h
  split at h
  .cases h;exact⟨avr,y0⟩
  .obtain⟨h1,h2⟩:=ih h
   exact⟨h1,by simp only[mz];omega⟩
def aiU{ops:List MOp}(h:qQ b st)(hb:b<=4398046511000):
  ((∀y∈(qR st home owner qn qb ops).res,y.1.length<=128/\0<=y.2/\y.2<=4398046511104)/\(qR st home owner qn qb ops).res.length<=16)/\(0<=(qR st home owner qn qb ops).err/\(qR st home owner qn qb ops).err<=100)/\ -1<=(qR st home owner qn qb ops).bad/\(qR st home owner qn qb ops).bad<=16:=by
 unfold qR
 split
 .exact⟨⟨(fun y h=>by cases h),y0⟩,y0,y0⟩
 .rename_i hl
  split
  .exact⟨⟨(fun y h=>by cases h),y0⟩,y0,y0⟩
  .cases e:zt home owner qn qb ops 0 ⟨srt st,[],[]⟩with
   | inl x=>
    obtain⟨h1,h2⟩:=ard e
    exact⟨⟨(fun y h=>by cases h),by simp[adf]⟩,h1,by simp only[adf];omega,by simp only[adf];omega⟩
   | inr w=>
    obtain⟨h1,h2⟩:=apH e (adK h) z7 (fun y h=>by cases h)
    refine⟨⟨h1,?_⟩,by simp[adf],by simp[adf],by simp[adf]⟩
    show w.res.length<=16
    rw[h2];simp;omega
def am3{n:Nd}(h:qQ b st)(hn:st.lookup p=some n):n.data.length<=256:=h.inv.data p n hn
def apI{ks:List Str}:∀ y∈xY ks p,y.length<=128:=fun y hy=>by
 unfold xY at hy
 obtain⟨k,_,hk⟩:=List.mem_filterMap.1 hy
 split at hk
 .unfold base at hk
  split at hk
  .rename_i ps e
   have:=(ab9 ((qZ.1 e).2.ok y (List.mem_of_getLast? hk))).2
   omega
  .cases hk
 .cases hk
def alr(i:wU b s)(hb:b<=33554432):ag7 (doS s c).2:=by
 have z:ag7 Rep.zero:=⟨by simp[Rep.zero],(fun y h=>by cases h),(fun y h=>by cases h),(fun y h=>by cases h)⟩
 have fz:∀ e,ag7 (wN e):=fun e=>⟨by simp[wN,Rep.zero],(fun y h=>by cases h),(fun y h=>by cases h),(fun y h=>by cases h)⟩
 unfold doS
 split
 .exact z
 split
 .unfold aeu
  have:=aiU (home:=c.home) (owner:=c.session) (qn:=64) (qb:=8192) (ops:=c.ops) i.tree z7
  exact⟨by simp[Rep.zero],fun y hy=>(this.1.1 y hy).1,(fun y h=>by cases h),(fun y h=>by cases h)⟩
 split
 .unfold acq
  split
  .exact fz _
  .split
   .exact fz _
   .simp only
    split
    .exact fz _
    .rename_i n hn
     exact⟨am3 i.tree hn,(fun y h=>by cases h),(fun y h=>by cases h),(fun y h=>by cases h)⟩
 split
 .unfold uS
  split
  .exact fz _
  .split
   .exact fz _
   .split
    .exact fz _
    .exact⟨by simp[Rep.zero],(fun y h=>by cases h),apI,(fun y h=>by cases h)⟩
 .exact z
def akn(i:wU b s)(hb:b<=33554432):wU (b+1) (doS s c).1:=by
 have i0:wU (b+1) s:=⟨i.tree.mono z7,i.tbl.mono z7,i.hub.mono z7,by have:=i.ep;omega,i.mem⟩
 unfold doS
 split
 .exact⟨i0.tree,arc i.tbl,i0.hub,i0.ep,i.mem⟩
 split
 .unfold aeu
  exact⟨(al6 i.tree z7).mono z7,i0.tbl,aiS _ i0.hub,i0.ep,i.mem⟩
 split
 .unfold acq
  split
  .exact i0
  .split
   .exact i0
   .refine⟨i0.tree,i0.tbl,?_,i0.ep,i.mem⟩
    simp only
    split
    .exact ao4 i.hub
    .exact i0.hub
 split
 .unfold uS
  split
  .exact i0
  .split
   .exact i0
   .split
    .exact i0
    .refine⟨i0.tree,i0.tbl,?_,i0.ep,i.mem⟩
     simp only
     split
     .exact ao4 i.hub
     .exact i0.hub
 .exact i0
def amd(i:wU b s)(hb:b<=33554433):wU b (acp s k):=
 ⟨arb i.tree z7,i.tbl,aiS _ (alp i.hub),i.ep,i.mem⟩
def ame(i:wU b s)(hb:b<=33554432):wU (b+1) (vj s c).1:=by
 have i0:wU (b+1) s:=⟨i.tree.mono z7,i.tbl.mono z7,i.hub.mono z7,by have:=i.ep;omega,i.mem⟩
 unfold vj
 split
 .unfold abS
  split
  .exact i0
  .refine⟨?_,asv i.tbl,i0.hub,i0.ep,i.mem⟩
   simp only
   split
   .exact(akV i.tree z7).mono z7
   .exact i0.tree
 split
 .split
  .exact amd (b:=b+1) ⟨i0.tree,ae8 i0.tbl,i0.hub,i0.ep,i.mem⟩ z7
  .exact i0
 split
 .unfold aaM
  split
  .exact i0
  .rename_i hr
   split
   .exact i0
   .refine⟨i0.tree,i0.tbl,i0.hub,by have:=i.ep;simp only;omega,?_⟩
    unfold aa9 at hr
    simp only[Bool.not_eq_false,mu,mS]at hr
    exact hr.2
 split
 .unfold aaN
  split
  .exact i0
  split
  .exact i0
  have i1:wU b ({s with hub:=(yg s.hub c.key c.ack).1}:Sto):=⟨i.tree,i.tbl,uB i.hub,i.ep,i.mem⟩
  simp only
  split
  .exact amd (b:=b+1) ⟨i0.tree,acH i0.tbl,uB i0.hub,i0.ep,i.mem⟩ z7
  .have i2:=akn (c:=c) i1 hb
   exact⟨i2.tree,at0 i2.tbl (aqp (alr i1 hb)),i2.hub,i2.ep,i2.mem⟩
 .exact i0
end Zt
namespace SL
open Go
variable{P:Program}{B:ZB}{ro I I':AH}{tag tag':Nat->Nat}
variable{β:Type}{s:Int}{kt:TypeId}
def aob{em:Bool}{f:Unit->Sem β}{K:β->AH->Prop}(hk:P.underlying kt=some (.int .i64))(h:awp P ro (f ()) K I):awp P ro (Sem.bind (Instr.checkKey em 10000 kt (.int .i64 s)) f) K I:=by
 rw[show(10000:Nat)=9999+1 from rfl]
 unfold Instr.checkKey
 simp only[qy]
 rw[bind_assoc',qx hk]
 exact h
def ao5{l:List MapEntry}{r:Option (Nat×ZC)}{f:Option (Nat×ZC)->Sem β}{K:β->AH->Prop}(hk:P.underlying kt=some (.int .i64))(hr:Instr.findNow (.int .i64) (.int .i64 s) l 0=some r)(h:awp P ro (f r) K I):
  awp P ro (Sem.bind (Instr.findKey kt (.int .i64 s) l) f) K I:=by
 unfold Instr.findKey
 simp only[qy]
 rw[bind_assoc',qx hk]
 rw[hr]
 exact h
end SL
namespace SL
open Go
variable{P:Program}
variable{τ:AH}{n off:Nat}{k:Str×Int}{kt t:TypeId}
abbrev kS(k:Str):ZC:= .string (S k)
abbrev kI(k:Int):ZC:= .int .i64 k
abbrev kSI(k:Str×Int):ZC:= .agg #[.string (S k.1),.int .i64 k.2]
def akZ{κ:Type}[DecidableEq κ]{enc:κ->ZC}{d:TypeDesc}(hsame:∀ k k',Instr.sameNow d (enc k) (enc k')=some (decide (k=k')))(k:κ):∀ (l:List MapEntry) (m:List (κ×ZC)) (i:Nat),l.map aae=m.map (ae5 enc)->Instr.findNow d (enc k) l i=some (adm k m i):=by
 intro l
 induction l with
 | nil=>intro m i h;cases m with
  | nil=>rfl
  | cons p m=>cases h
 | cons e l ih=>
  intro m i h
  cases m with
  | nil=>cases h
  | cons p m=>
   simp only[mF,List.cons.injEq]at h
   have hk:e.key=enc p.1:=mj Prod.fst h.1
   have hv:e.val=p.2:=mj Prod.snd h.1
   unfold Instr.findNow adm
   rw[hk,hsame,hv]
   by_cases c:k=p.1
   .rw[mc c,Lk c]
   .rw[ma c,Lf c]
    exact ih m (i+1) h.2
def als(hk:P.underlying kt=some .string):alc P kt kS where
 check:=fun h=>aed hk h
 find:=fun{_ _ _ k l m f K} he h=>by
  refine aaf hk (akZ (enc:=kS) (fun k k'=>?_) k l m 0 he) h
  show some (S k == S k')=_
  rw[ala];congr 1;rw[Pn];exact abL
 stays:=fun k=>by
  unfold Instr.keyThatStays
  rw[mc (by simp[Instr.sameBits,ala])];try rfl
def am4(hk:P.underlying kt=some (.int .i64)):alc P kt kI where
 check:=fun h=>aob hk h
 find:=fun{_ _ _ k l m f K} he h=>by
  refine ao5 hk (akZ (enc:=kI) (fun k k'=>?_) k l m 0 he) h
  show(if IntKind.i64=IntKind.i64 then some (k == k')else none)=_
  rw[mc rfl];congr 1
 stays:=fun k=>by
  unfold Instr.keyThatStays
  rw[mc (by simp[Instr.sameBits])];try rfl
section
variable{ro:AH}
def wK{α β:Type}(s:Sem α)(f:α->Sem β){a:α}(h:qh P ro s τ=some a):qh P ro (Sem.bind s f) τ=qh P ro (f a) τ:=by
 induction s with
 | pure x=>cases h;rfl
 | load m x k ih=>
  simp only[qh]at h
  simp only[Sem.bind,qh]
  split at h
  .exact ih _ h
  .cases h
 | program k ih=>exact ih _ h
 | mark m k ih=>exact ih h
 | _=>cases h
structure SI(P:Program)(kt:TypeId):Prop where
 st:∃ n1 n2:Field,P.underlying kt=some (.struct #[n1,n2])/\P.underlying n1.type=some .string/\n1.offset=0/\P.underlying n2.type=some (.int .i64)/\n2.offset=1/\n1.name≠ "_" /\n2.name≠ "_"
 held:P.stoodInHeld kt=false
def ako{cs:Array Value}{v:ZC}(ht:P.underlying t=some .string\/P.underlying t=some (.int .i64))(hv:cs[off]?=some v):qh P ro (part t cs off) τ=some v:=by
 have hs:cs.getD off undef=v:=by simp[mT,hv]
 unfold part
 show qh P ro (Sem.bind (isAgg t) _) τ=_
 rcases ht with ht | ht
 .rw[aad ht];simp[hv];rfl
 .rw[aad ht];simp[hv];rfl
def awm{a b:ZA}(ht:P.underlying t=some .string):qh P ro (Op.equalIn (n+1) t (.string a) (.string b)) τ=some (decide (a=b)):=by
 unfold Op.equalIn
 show qh P ro (Sem.bind (underlying t) _) _=_
 rw[qF _ _ ht]
 show some (a == b)=_
 rw[ala]
def awn{a b:Int}(ht:P.underlying t=some (.int .i64)):qh P ro (Op.equalIn (n+1) t (.int .i64 a) (.int .i64 b)) τ=some (decide (a=b)):=by
 unfold Op.equalIn
 show qh P ro (Sem.bind (underlying t) _) _=_
 rw[qF _ _ ht]
 show some (a == b)=_
 congr 1
def axC(hk:SI P kt){k':Str×Int}:qh P ro (Op.equalIn (9998+2) kt (kSI k) (kSI k')) τ=some (decide (k=k')):=by
 obtain⟨n1,n2,hu,h1,h2,h3,h4,h5,h6⟩:=hk.st
 unfold Op.equalIn
 show qh P ro (Sem.bind (underlying kt) _) _=_
 rw[qF _ _ hu]
 show qh P ro (if P.stoodInHeld kt=true then _ else _) τ=_
 rw[hk.held,ma y0]
 show qh P ro (Sem.bind (forIn #[n1,n2] _ _) _) τ=_
 have p0:∀ {β:Type} (k:Str×Int) (f:ZC->Sem β),qh P ro (part n1.type #[Value.string (S k.1),Value.int IntKind.i64 k.2] n1.offset >>= f) τ=qh P ro (f (.string (S k.1))) τ:=fun k f=>wK _ _ (ako (.inl h1) (by rw[h2];try rfl))
 have p1:∀ {β:Type} (k:Str×Int) (f:ZC->Sem β),qh P ro (part n2.type #[Value.string (S k.1),Value.int IntKind.i64 k.2] n2.offset >>= f) τ=qh P ro (f (.int .i64 k.2)) τ:=fun k f=>wK _ _ (ako (.inr h3) (by rw[h4];try rfl))
 have q0:∀ {β:Type} (f:Bool->Sem β),qh P ro (Op.equalIn 9999 n1.type (.string (S k.1)) (.string (S k'.1)) >>= f) τ=qh P ro (f (decide (S k.1=S k'.1))) τ:=fun f=>wK _ _ (awm (n:=9998) h1)
 have q1:∀ {β:Type} (f:Bool->Sem β),qh P ro (Op.equalIn 9999 n2.type (.int .i64 k.2) (.int .i64 k'.2) >>= f) τ=qh P ro (f (decide (k.2=k'.2))) τ:=fun f=>wK _ _ (awn (n:=9998) h3)
 obtain⟨k1,k2⟩:=k
 obtain⟨m1,m2⟩:=k'
 rw[<-Array.forIn_toList]
 show qh P ro (Sem.bind (forIn [n1,n2] _ _) _) τ=_
 by_cases c1:k1=m1
 .by_cases c2:k2=m2
  .rw[Lk (by rw[c1,c2])]
   refine(wK _ _ (a:=((none,()):Option Bool×Unit)) ?_).trans rfl
   rw[List.forIn_cons]
   refine(wK _ _ (a:= .yield ((none,()):Option Bool×Unit)) ?_).trans ?_
   .rw[mc h5,p0,p0,q0,Lk (by rw[c1])];try rfl
   .show qh P ro (forIn [n2] _ _) τ=_
    rw[List.forIn_cons]
    refine(wK _ _ (a:= .yield ((none,()):Option Bool×Unit)) ?_).trans ?_
    .rw[mc h6,p1,p1,q1,Lk c2];try rfl
    .rfl
  .rw[Lf (by rintro h;cases h;exact c2 rfl)]
   refine(wK _ _ (a:=((some false,()):Option Bool×Unit)) ?_).trans rfl
   rw[List.forIn_cons]
   refine(wK _ _ (a:= .yield ((none,()):Option Bool×Unit)) ?_).trans ?_
   .rw[mc h5,p0,p0,q0,Lk (by rw[c1])];try rfl
   .show qh P ro (forIn [n2] _ _) τ=_
    rw[List.forIn_cons]
    refine(wK _ _ (a:= .done ((some false,()):Option Bool×Unit)) ?_).trans ?_
    .rw[mc h6,p1,p1,q1,Lf c2];try rfl
    .rfl
 .rw[Lf (by rintro h;cases h;exact c1 rfl)]
  refine(wK _ _ (a:=((some false,()):Option Bool×Unit)) ?_).trans rfl
  rw[List.forIn_cons]
  refine(wK _ _ (a:= .done ((some false,()):Option Bool×Unit)) ?_).trans ?_
  .rw[mc h5,p0,p0,q0,Lf (by rw[abL];exact c1)];rfl
  .rfl
def avs(hk:SI P kt){em:Bool}:qh P ro (Instr.checkKey em (9998+2) kt (kSI k)) τ=some ():=by
 obtain⟨n1,n2,hu,h1,h2,h3,h4,h5,h6⟩:=hk.st
 unfold Instr.checkKey
 show qh P ro (Sem.bind (underlying kt) _) _=_
 rw[qF _ _ hu]
 show qh P ro (Sem.bind (forIn #[n1,n2] _ _) _) τ=_
 have p0:∀ {β:Type} (f:ZC->Sem β),qh P ro (part n1.type #[Value.string (S k.1),Value.int IntKind.i64 k.2] n1.offset >>= f) τ=qh P ro (f (.string (S k.1))) τ:=fun f=>wK _ _ (ako (.inl h1) (by rw[h2];try rfl))
 have p1:∀ {β:Type} (f:ZC->Sem β),qh P ro (part n2.type #[Value.string (S k.1),Value.int IntKind.i64 k.2] n2.offset >>= f) τ=qh P ro (f (.int .i64 k.2)) τ:=fun f=>wK _ _ (ako (.inr h3) (by rw[h4];try rfl))
 have c0:∀ {β:Type} (f:Unit->Sem β),qh P ro (Instr.checkKey em 9999 n1.type (.string (S k.1)) >>= f) τ=qh P ro (f ()) τ:=fun f=>wK _ _ (by
  rw[show(9999:Nat)=9998+1 from rfl];unfold Instr.checkKey
  show qh P ro (Sem.bind (underlying n1.type) _) _=_
  rw[qF _ _ h1];try rfl)
 have c1:∀ {β:Type} (f:Unit->Sem β),qh P ro (Instr.checkKey em 9999 n2.type (.int .i64 k.2) >>= f) τ=qh P ro (f ()) τ:=fun f=>wK _ _ (by
  rw[show(9999:Nat)=9998+1 from rfl];unfold Instr.checkKey
  show qh P ro (Sem.bind (underlying n2.type) _) _=_
  rw[qF _ _ h3];try rfl)
 refine(wK _ _ (a:=()) ?_).trans rfl
 rw[<-Array.forIn_toList]
 show qh P ro (forIn [n1,n2] _ _) τ=_
 rw[List.forIn_cons]
 refine(wK _ _ (a:= .yield ()) ?_).trans ?_
 .rw[mc h5,p0,c0];try rfl
 .show qh P ro (forIn [n2] _ _) τ=_
  rw[List.forIn_cons]
  refine(wK _ _ (a:= .yield ()) ?_).trans ?_
  .rw[mc h6,p1,c1];try rfl
  .rfl
def axc(hk:SI P kt)(k:Str×Int):∀ (l:List MapEntry) (m:List ((Str×Int)×ZC)) (i:Nat),l.map aae=m.map (ae5 kSI)->qh P ro (Instr.findAsking kt (kSI k) l i) τ=some (adm k m i):=by
 intro l
 induction l with
 | nil=>intro m i h;cases m with
  | nil=>rfl
  | cons p m=>cases h
 | cons e l ih=>
  intro m i h
  cases m with
  | nil=>cases h
  | cons p m=>
   simp only[mF,List.cons.injEq]at h
   have h1:e.key=kSI p.1:=mj Prod.fst h.1
   have hv:e.val=p.2:=mj Prod.snd h.1
   unfold Instr.findAsking adm
   rw[h1,hv]
   show qh P ro (Sem.bind (Op.equal kt (kSI k) (kSI p.1)) _) τ=_
   refine(wK _ _ (a:=decide (k=p.1)) (by unfold Op.equal Op.maxDepth;exact axC hk)).trans ?_
   by_cases c:k=p.1
   .rw[Lk c,mc rfl,mc c];try rfl
   .rw[Lf c,ma y0,ma c]
    exact ih m (i+1) h.2
end
def aew(hk:SI P kt):alc P kt kSI where
 check:=fun{ro I _ em k f K} h=>by
  show awp P ro (_ >>= f) K I
  rw[vL]
  exact agh _ (avs hk) h
 find:=fun{ro I _ k l m f K} he h=>by
  show awp P ro (_ >>= f) K I
  rw[vL]
  refine agh _ (a:=adm k m 0) ?_ h
  obtain⟨n1,n2,hu,_⟩:=hk.st
  unfold Instr.findKey
  show qh P ro (Sem.bind (underlying kt) _) _=_
  rw[qF _ _ hu]
  cases l with
  | nil=>cases m with
   | nil=>rfl
   | cons p m=>cases he
  | cons e l=>
   have hn:Instr.findNow (.struct #[n1,n2]) (kSI k) (e::l) 0=none:=rfl
   rw[hn]
   exact axc hk k _ m 0 he
 stays:=fun k=>by
  unfold Instr.keyThatStays
  rw[mc (by simp[Instr.sameBits,ala])];try rfl
end SL
namespace Zt
open Go SL G Pa Wi
variable{B:ZB}{ro I I':AH}{tag tag':Nat->Nat}
variable{h:Hub}{bs:List Nat}{M T b c:Nat}{home:Str}{k:Str×Int}{t:Tbl}{d:xR}
def pr(b c:Nat):Nat:=(b+c)*(b+c)+b
def asz{b' c':Nat}(h:pr b c=pr b' c'):b=b'/\c=c':=by
 unfold pr at h
 have key:∀ s s' x x':Nat,x<=s->x'<=s'->s*s+x=s'*s'+x'->¬ s<s':=fun s s' x x' h1 h2 h3 h4=>by
  have:(s+1)*(s+1)<=s'*s':=Nat.mul_le_mul h4 h4
  have e:(s+1)*(s+1)=s*s+2*s+1:=by rw[Lb,Nat.mul_add];omega
  omega
 have h1:=key _ _ _ _ (by omega:b<=b+c) (by omega:b'<=b'+c') h
 have h2:=key _ _ _ _ (by omega:b'<=b'+c') (by omega:b<=b+c) h.symm
 have e:b+c=b'+c':=by omega
 rw[e]at h
 omega
def afr(tag:Nat->Nat)(I:AH)(b:Nat)(home:Str)(c:Nat)(n:Int)(s:yf):Prop:=
 ∃d:Sl,Row tag I (58+64*(pr b c+2)) 83 ⟨some ⟨c,0,none⟩,7,7⟩ [Pa.vS home,vI n,vI s.nonce,vI s.lease,vI s.beats,vI s.req,Sl.v d]/\Row tag I 6 5 d (s.reply.map vU)
def pT(tag:Nat->Nat)(I:AH)(b:Nat)(home:Str)(h:xL):Prop:=
 ∃m cs,Row tag I (56+64*(b+2)) 254 ⟨some ⟨b,0,none⟩,2,2⟩ [vI h.last,.map (some m)]/\pc kI (afr tag I b home) tag I (57+64*(b+2)) m cs h.live
structure za(tag:Nat->Nat)(I:AH)(T M:Nat)(bs:List Nat)(t:Tbl):Prop where
 cell:Row tag I 55 242 ⟨some ⟨T,0,none⟩,1,1⟩ [.map (some M)]
 map:pc kS (pT tag I) tag I 119 M bs t
def aiV(tag:Nat->Nat)(I:AH)(T:Nat)(t:Tbl):Prop:= ∃M bs,za tag I T M bs t
def evV(e:Int×Int×Str):List Value:=[vI e.1,vI e.2.1,Pa.vS e.2.2]
def yC(tag:Nat->Nat)(I:AH)(b:Nat)(k:Str×Int)(d:xR):Prop:=
 ∃m s,Row tag I (59+64*(b+2)) 310 ⟨some ⟨b,0,none⟩,4,4⟩ [Sl.v s,vI d.acked,vI d.last,.map (some m)]/\ql tag I (61+64*(b+2)) 132 3 s (d.events.map evV)/\vm kSI tag I (60+64*(b+2)) m (d.marks.map fun k=>(k,vI 1))
structure zd(tag:Nat->Nat)(I:AH)(T M:Nat)(bs:List Nat)(h:Hub):Prop where
 cell:Row tag I 62 245 ⟨some ⟨T,0,none⟩,1,1⟩ [.map (some M)]
 map:pc kSI (yC tag I) tag I 126 M bs h
def akp(tag:Nat->Nat)(I:AH)(T:Nat)(h:Hub):Prop:= ∃M bs,zd tag I T M bs h
section
variable{R C:List Nat}
def afr.keep{n:Int}{s:yf}(h:afr tag I b home c n s)(k:qd R ro tag I tag' I')(h1:58+64*(pr b c+2)∉R:=by simp)(h6:6∉R:=by simp):afr tag' I' b home c n s:=by
 obtain⟨d,a,e⟩:=h
 exact⟨d,a.keep k h1,e.keep k h6⟩
def pT.keep{h:xL}(i:pT tag I b home h)(k:qd R ro tag I tag' I')(h1:∀ x∈R,x%64=56->x≠56+64*(b+2):=by simp)(h2:∀ x∈R,x%64=57->x≠57+64*(b+2):=by simp)(h3:∀ c,58+64*(pr b c+2)∉R:=by simp)(h6:6∉R:=by simp):pT tag' I' b home h:=by
 obtain⟨m,cs,a,e⟩:=i
 exact⟨m,cs,a.keep k fun hm=>h1 _ hm z7 rfl,e.mono (e.map.keep k fun hm=>h2 _ hm z7 rfl) fun i c n s _ _ hs=>hs.keep k (h3 c) h6⟩
def pT.keepS{h:xL}(i:pT tag I b home h)(k:StepS C ro tag I tag' I')(hC:56∉C/\57∉C/\58∉C/\6∉C:=by decide):pT tag' I' b home h:=by
 obtain⟨R,hR,k⟩:=k
 refine i.keep k (fun x hx e=>?_) (fun x hx e=>?_) (fun c hx=>?_) fun hx=>?_
 .have:=hR x hx;rw[e]at this;exact mt this hC.1
 .have:=hR x hx;rw[e]at this;exact mt this hC.2.1
 .have:=hR _ hx;rw[show(58+64*(pr b c+2))%64=58 by omega]at this;exact hC.2.2.1 this
 .exact hC.2.2.2 (hR _ hx)
def za.keepS(i:za tag I T M bs t)(k:StepS C ro tag I tag' I')(hC:55∉C/\56∉C/\57∉C/\58∉C/\6∉C:=by decide):za tag' I' T M bs t:=
 ⟨i.cell.keepS k hC.1,i.map.mono (i.map.map.keepS k hC.1) fun _ b k' h _ _ hh=>hh.keepS k hC.2⟩
def aiV.keepS(i:aiV tag I T t)(k:StepS C ro tag I tag' I')(hC:55∉C/\56∉C/\57∉C/\58∉C/\6∉C:=by decide):aiV tag' I' T t:=by
 obtain⟨M,bs,i⟩:=i
 exact⟨M,bs,i.keepS k hC⟩
def yC.keep(i:yC tag I b k d)(st:qd R ro tag I tag' I')(h1:59+64*(b+2)∉R:=by simp)(h2:60+64*(b+2)∉R:=by simp)(h3:61+64*(b+2)∉R:=by simp):yC tag' I' b k d:=by
 obtain⟨m,s,a,e,f⟩:=i
 exact⟨m,s,a.keep st h1,e.keep st h3,f.keep st h2⟩
def yC.keepS(i:yC tag I b k d)(st:StepS C ro tag I tag' I')(hC:59∉C/\60∉C/\61∉C:=by decide):yC tag' I' b k d:=by
 obtain⟨R,hR,st⟩:=st
 refine i.keep st (fun hx=>?_) (fun hx=>?_) fun hx=>?_
 .have:=hR _ hx;rw[show(59+64*(b+2))%64=59 by omega]at this;exact hC.1 this
 .have:=hR _ hx;rw[show(60+64*(b+2))%64=60 by omega]at this;exact hC.2.1 this
 .have:=hR _ hx;rw[show(61+64*(b+2))%64=61 by omega]at this;exact hC.2.2 this
def zd.keepS(i:zd tag I T M bs h)(st:StepS C ro tag I tag' I')(hC:62∉C/\59∉C/\60∉C/\61∉C:=by decide):zd tag' I' T M bs h:=
 ⟨i.cell.keepS st hC.1,i.map.mono (i.map.map.keepS st hC.1) fun _ b k' d _ _ hh=>hh.keepS st hC.2⟩
def akp.keepS(i:akp tag I T h)(st:StepS C ro tag I tag' I')(hC:62∉C/\59∉C/\60∉C/\61∉C:=by decide):akp tag' I' T h:=by
 obtain⟨M,bs,i⟩:=i
 exact⟨M,bs,i.keepS st hC⟩
end
def uV(tag:Nat->Nat)(I:AH)(W:Nat)(s:Sto):Prop:= ∃(T Tt Th:Nat) (ms:Sl),
 Row tag I 54 153 ⟨some ⟨W,0,none⟩,5,5⟩ [vI s.epoch,Sl.v ms,ptr T,ptr Tt,ptr Th]/\Row tag I 118 3 ms (s.members.map vI)/\wd tag I 10 T s.tree/\aiV tag I Tt s.tbl/\akp tag I Th s.hub
end Zt
namespace Zt
open Go SL G Pa Wi
variable{B:ZB}{ro I I':AH}{tag tag':Nat->Nat}
variable{kind:Int}{ks:List (Str×Int)}{R:List Nat}{b i:Nat}{k:Str×Int}{m:kN}{d:xR}
abbrev rD(b:Nat):Nat:=59+64*(b+2)
abbrev rM(b:Nat):Nat:=60+64*(b+2)
abbrev rE(b:Nat):Nat:=61+64*(b+2)
structure agI(b:Nat)(R:List Nat):Prop where
 r62:62∉R
 r126:126∉R
 r59:∀ x∈R,x%64=59->x=rD b
 r60:∀ x∈R,x%64=60->x=rM b
 r61:∀ x∈R,x%64=61->x=rE b
def yC.other{b':Nat}(i:yC tag I b' k d)(st:qd R ro tag I tag' I')(hR:agI b R)(hne:b'≠b):yC tag' I' b' k d:=by
 refine i.keep st (fun hx=>?_) (fun hx=>?_) fun hx=>?_
 .have:=hR.r59 _ hx z7;unfold rD at this;omega
 .have:=hR.r60 _ hx z7;unfold rM at this;omega
 .have:=hR.r61 _ hx z7;unfold rE at this;omega
section
variable{T M:Nat}{bs:List Nat}{h:Hub}
def zd.old{d':xR}(hi:zd tag I T M bs h)(st:qd R ro tag I tag' I')(hR:agI b R)(hb:bs[i]?=some b)(hp:h[i]?=some (k,d))(hn:yC tag' I' b k d'):zd tag' I' T M bs (wR h k d'):=
 ⟨hi.cell.keep st hR.r62,hi.map.write hb hp (hi.map.map.keep st hR.r126) hn fun b' k' x hb' _ hA=>hA.other st hR hb'⟩
def zd.new{tag2:Nat->Nat}{I2:AH}(hi:zd tag I T M bs h)(hk:qj h k=none)(st:qd R ro tag I tag' I')(hR:agI b R)(hnb:b∉bs)(hn:yC tag' I' b k d)(st2:qd [126] ro tag' I' tag2 I2)(hm:vm kSI tag2 I2 126 M (wR (kvP h bs) k (afJ b))):zd tag2 I2 T M (bs++[b]) (wR h k d):=
 ⟨(hi.cell.keep st hR.r62).keep st2,hi.map.add hk hm hnb (hn.keepS (st2.s (C:=[62]) y0)) fun i b' k' x hb' _ hA=>(hA.other st hR fun e=>hnb (by rw[<-e];exact mW hb')).keepS (st2.s (C:=[62]) y0)⟩
def zd.gone(hi:zd tag I T M bs h)(st:qd [126] ro tag I tag' I')(hm:vm kSI tag' I' 126 M (jt (kvP h bs) k)):∃ bs',zd tag' I' T M bs' (jt h k):=by
 have kp:∀ b' k' x,yC tag I b' k' x->yC tag' I' b' k' x:=fun b' k' x hx=>hx.keepS (st.s (C:=[62]) y0)
 rcases hi.map.look k with⟨g1,g2⟩ | ⟨i,b,d,hb,hp,g3,g4,hA⟩
 .rw[ans g1]
  rw[ans g2]at hm
  exact⟨bs,hi.cell.keep st,hi.map.mono hm fun i b k' a _ _=>kp b k' a⟩
 .exact⟨bs.eraseIdx i,hi.cell.keep st,hi.map.del hb hp hm kp⟩
end
def yC.own(h:yC tag I b k d):∃ o,I b=some o:=by
 obtain⟨m,s,a,_⟩:=h
 exact a.tagOf.2
abbrev mk1(l:List kN):List (kN×ZC):=l.map fun k=>(k,vI 1)
def ao6(l:List kN)(m:kN):qj (mk1 l) m=if m∈l then some (vI 1)else none:=by
 induction l with
 | nil=>rfl
 | cons x l ih=>
  show(if m=x then some (vI 1)else qj (mk1 l) m)=_
  by_cases c:m=x
  .rw[mc c,mc (by simp[c])]
  .rw[ma c,ih]
   by_cases d:m∈l
   .rw[mc d,mc (by simp[d])]
   .rw[ma d,ma (by simp[c,d])]
def avt(l:List kN)(m:kN):jt (mk1 l) m=mk1 (l.erase m):=by
 induction l with
 | nil=>rfl
 | cons x l ih=>
  show(if m=x then mk1 l else(x,vI 1)::jt (mk1 l) m)=_
  by_cases c:m=x
  .rw[mc c,c,List.erase_cons_head]
  .rw[ma c,ih,List.erase_cons_tail (by simpa using fun e=>c e.symm)];try rfl
def avu(l:List kN)(m:kN):wR (mk1 l) m (vI 1)=mk1 (if m∈l then l else l++[m]):=by
 induction l with
 | nil=>rfl
 | cons x l ih=>
  show(if m=x then(m,vI 1)::mk1 l else(x,vI 1)::wR (mk1 l) m (vI 1))=_
  by_cases c:m=x
  .rw[mc c,mc (by simp[c]),c];try rfl
  .rw[ma c,ih]
   by_cases d:m∈l
   .rw[mc d,mc (by simp[d])];try rfl
   .rw[ma d,ma (by simp[c,d])];try rfl
def jx(h:Hub)(m:kN)(kind:Int)(ks:List (Str×Int)):Hub:=h.map fun p=>if p.1∈ks then(p.1,uR m kind p.2)else p
def arf(h:Hub)(m:kN)(kind:Int):jx h m kind []=h:=by unfold jx;simp
def arh{h:Hub}(hk:∀ p∈h,p.1∈ks):jx h m kind ks=yS h m kind:=by
 unfold jx yS
 refine List.map_congr_left fun p hp=>?_
 rw[mc (hk p hp)]
def aiW{h:Hub}(hp:h[i]?=some (k,d))(hk:k∉ks):(jx h m kind ks)[i]?=some (k,d):=by
 unfold jx
 rw[mh,hp]
 simp[hk]
def ari{h:Hub}(hn:(h.map (·.1)).Nodup)(hp:h[i]?=some (k,d))(hk:k∉ks):wR (jx h m kind ks) k (uR m kind d)=jx h m kind (ks++[k]):=by
 have hn':((jx h m kind ks).map (·.1)).Nodup:=by
  have:(jx h m kind ks).map (·.1)=h.map (·.1):=by
   unfold jx
   rw[Lh]
   refine List.map_congr_left fun p _=>?_
   simp only[Function.comp]
   split<;>rfl
  rw[this];exact hn
 rw[agz _ hn' (aiW hp hk)]
 apply nJ
 intro j
 rw[nP]
 by_cases c:i=j
 .subst c
  have hil:i<(jx h m kind ks).length:=(List.getElem?_eq_some_iff.1 (aiW hp hk)).1
  rw[mc rfl,mc hil]
  unfold jx
  rw[mh,hp]
  simp
 .rw[ma c]
  unfold jx
  rw[mh,mh]
  cases e:h[j]? with
  | none=>rfl
  | some q=>
   have hq:q.1≠k:=fun e'=>c (adB hn (i:=i) (j:=j) (x:=k) (by rw[mh,hp];try rfl) (by rw[mh,e];simp[e']))
   simp[hq]
def apJ{h:Hub}(hn:(h.map (·.1)).Nodup)(hp:h[i]?=some (k,d))(hk:k∉ks)(hm:m∉d.marks):jx h m kind (ks++[k])=jx h m kind ks:=by
 unfold jx
 refine List.map_congr_left fun p hpm=>?_
 by_cases c:p.1=k
 .have:p=(k,d):=by
   obtain⟨j,hj,e⟩:=ni hpm
   have hj':h[j]?=some p:=by rw[md hj,e]
   have:i=j:=adB hn (i:=i) (j:=j) (x:=k) (by rw[mh,hp];try rfl) (by rw[mh,hj'];simp[c])
   subst this
   rw[hp]at hj';cases hj';rfl
  subst this
  simp only[mv,mr,or_true,if_true]
  rw[ma hk]
  unfold uR
  rw[ma hm]
 .simp[c]
end Zt
namespace SL
open Go
variable{P:Program}{B:ZB}{ro I I':AH}{tag tag':Nat->Nat}
variable{K:AH->Prop}{l:List (List Value)}{b j m n r w:Nat}{s:Sl}{e:TypeId}
def ql.stF(ha:s.a=some ⟨b,0,none⟩):∀ (vs:List Value) (i:Nat) (l:List (List Value)) (y:List Value) (I:AH),ql tag I r e w s l->l[j]?=some y->Sep ro I->i+vs.length<=w->(∀v∈vs,qg v=true)->
  (∀I',qd [r] ro tag I tag I'->ql tag I' r e w s (l.set j (y.take i++vs++y.drop (i+vs.length)))->K I')->stN ⟨b,j*w,none⟩ K vs i I:=by
 intro vs
 induction vs with
 | nil=>
  intro i l y I h hj hs _ _ hK
  refine hK I (qd.refl hs) ?_
  have:l.set j (y.take i++[]++y.drop (i+([]:List Value).length))=l:=by
   have hjl:j<l.length:=(List.getElem?_eq_some_iff.1 hj).1
   rw[nk,nH,Nat.add_zero,List.take_append_drop]
   have:=(List.getElem?_eq_some_iff.1 hj).2
   rw[<-this];exact List.set_getElem_self hjl
  rw[this];exact h
 | cons v vs ih=>
  intro i l y I h hj hs hl hv hK
  simp only[mz]at hl
  have hyl:y.length=w:=h.wide y (mW hj)
  have hjl:j<l.length:=(List.getElem?_eq_some_iff.1 hj).1
  have h1:=ql.st (v:=v) (i:=i) (K:=stN ⟨b,j*w,none⟩ K vs (i+1)) h hs ha hj z7 (hv v y0) fun I1 st1 h1=>?_
  .unfold stN at h1
   have e:(⟨b,j*w+i,none⟩:Addr).add 0=(⟨b,j*w,none⟩:Addr).add i:=by simp[Addr.add]
   rw[e]at h1
   unfold stN
   exact h1
  .refine ih (i+1) (l.set j (y.set i v)) (y.set i v) I1 h1 (by rw[List.getElem?_set_self hjl]) st1.sep z7 (fun u hu=>hv u (by simp[hu])) fun I2 st2 h2=>?_
   refine hK I2 (st1.trans st2) ?_
   have e1:(y.set i v).take (i+1)=y.take i++[v]:=by
    rw[mK,List.take_set_of_le (mR _),List.getElem?_set_self z7];try rfl
   have e2:(y.set i v).drop (i+1+vs.length)=y.drop (i+(v::vs).length):=by
    rw[List.drop_set_of_lt z7];congr 1;simp;omega
   rw[e1,e2,List.set_set]at h2
   simpa using h2
def ql.stE{x y:List Value}(h:ql tag I r e w s l)(hs:Sep ro I)(ha:s.a=some ⟨b,0,none⟩)(hj:l[j]?=some y)(hx:x.length=w)(hv:∀ v∈x,qg v=true)
  (hK:∀ I',qd [r] ro tag I tag I'->ql tag I' r e w s (l.set j x)->K I'):stN ((⟨b,0,none⟩:Addr).add (j*w)) K x 0 I:=by
 have hyl:y.length=w:=h.wide y (mW hj)
 have:=ql.stF (K:=K) ha x 0 l y I h hj hs z7 hv fun I' st h'=>hK I' st (by
  rw[Lm,ml,LI z7]at h'
  simpa using h')
 rw[vq,ml];exact this
def ql.take(h:ql tag I r e w s l)(hm:m<=l.length):ql tag I r e w ⟨s.a,m,s.cap⟩ (l.take m):=by
 rcases h with⟨rfl,rfl⟩ | ⟨b,cs,ha,ht,hb,hln,hc,hle,hw,hg⟩
 .simp at hm;subst hm;exact .inl ⟨rfl,rfl⟩
 .refine .inr ⟨b,cs,ha,ht,hb,j2,hc,by simp only;omega,fun x hx=>hw x (nt hx),fun i v hv=>?_⟩
  refine hg i v ?_
  have e1:l.flatten=(l.take m).flatten++(l.drop m).flatten:=by rw[<-List.flatten_append,List.take_append_drop]
  rw[e1]
  have hi:i<(l.take m).flatten.length:=(List.getElem?_eq_some_iff.1 hv).1
  rw[mQ hi];exact hv
def aoc{zs:Array Value}:(Builtin.zeroCells zs n).size=n*zs.size/\∀ v∈(Builtin.zeroCells zs n).toList,v∈zs.toList:=by
 constructor
 .simp[Builtin.zeroCells]
 .intro v hv
  simp only[Builtin.zeroCells,Array.mem_toList_iff,Array.mem_map]at hv
  obtain⟨i,hi,rfl⟩:=hv
  have hi':i<n*zs.size:=by simpa using hi
  have h0:0<zs.size:=by
   rcases nh zs.size with h | h
   .rw[h]at hi';omega
   .exact h
  rw[getElem!_pos zs _ (LX _ h0)]
  simp
def am5{r t ty:TypeId}{bytes:Nat}{zv:ZC}{Q:ZC->AH->Prop}(h:ql tag I r e w s l)(hs:Sep ro I)(ht:P.underlying t=some (.slice e))(hz:qp P e zv w bytes)(hzc:zv.cells.size=w)(hv:∀ v∈zv.cells.toList,qg v=true)(hw0:0<w)
  (hm:m<=l.length) (hQ:∀ I',qd [r] ro tag I tag I'->ql tag I' r e w ⟨s.a,m,s.cap⟩ (l.take m)->Q (.tuple #[]) I'):
  awp P ro (Builtin.clear_ #[t] ty #[Sl.v (⟨wv s.a m s.cap w,s.len - m,s.cap - m⟩:Sl)]) Q I:=by
 have g0:(#[t]:Array TypeId)[0]?=some t:=rfl
 have g1:(#[Value.slice (wv s.a m s.cap w) (s.len - m) (s.cap - m)]:Array Value)[0]?=some (Value.slice (wv s.a m s.cap w) (s.len - m) (s.cap - m)):=rfl
 have hl:=h.len
 unfold Builtin.clear_
 simp only[Sl.v,qy,qS,g0,g1]
 rw[qx ht]
 rcases nh (s.len - m)with h0 | h0
 .have hd:=hQ I (qd.refl hs) (h.take hm)
  rw[h0]
  cases hc:wv s.a m s.cap w with
  | none=>exact hd
  | some a=>exact hd
 .have htk:=h.take hm
  rcases h with⟨rfl,rfl⟩ | ⟨b,cs,ha,htg,hbk,hln,hcp,hle,hw,hg⟩
  .simp at h0
  .have hcut:wv s.a m s.cap w=some ⟨b,m*w,none⟩:=by
    unfold wv
    rw[ma z7,ha]
    simp[vq]
   rw[hcut]
   obtain⟨k,hk⟩:∃ k,s.len - m=k+1:=⟨s.len - m - 1,z7⟩
   rw[hk]
   simp only
   rw[ab0 hz]
   refine(vL _ _).2 ?_
   obtain⟨z1,z2⟩:=aoc (zs:=zv.cells) (n:=k+1)
   have hbound:m*w+(k+1)*w<=cs.size:=by
    rw[hcp,<-Lb]
    exact Nat.mul_le_mul_right _ z7
   refine jY (Builtin.zeroCells zv.cells (k+1)).toList 0 I (age (Builtin.zeroCells zv.cells (k+1)).toList cs 0 I hbk (by rw[Array.length_toList,z1,hzc];omega) (fun v hvm=>?_) fun cs' c1 c2 c3=>?_)
   .exact hv v (z2 v hvm)
   refine hQ _ (kJ hs htg hbk) ?_
   refine .inr ⟨b,cs',ha,htg,qE _ _ _,j2,by rw[c1];exact hcp,j2,fun x hx=>hw x (nt hx),fun i v hi=>?_⟩
   have hil:i<m*w:=by
    have:=(List.getElem?_eq_some_iff.1 hi).1
    rw[yc (w:=w) fun x hx=>hw x (nt hx),nA,Nat.min_eq_left hm]at this
    exact this
   rw[c2 i z7]
   rcases htk with⟨_,e2⟩ | ⟨b',cs2,ha2,_,hb2,_,_,_,_,hg2⟩
   .rw[e2]at hi;cases hi
   .simp only at ha2
    rw[ha]at ha2;cases ha2
    rw[hbk]at hb2;cases hb2
    exact hg2 i v hi
end SL
namespace Zt
open Go SL G Pa Wi
variable{B:ZB}{ro I I':AH}{tag tag':Nat->Nat}
variable{n:Int}{R cs:List Nat}{b c i j m:Nat}{home:Str}{h:xL}{s:yf}
abbrev rH(b:Nat):Nat:=56+64*(b+2)
abbrev rL(b:Nat):Nat:=57+64*(b+2)
abbrev rS(b c:Nat):Nat:=58+64*(pr b c+2)
structure ah0(b:Nat)(R:List Nat):Prop where
 r6:6∉R
 r55:55∉R
 r119:119∉R
 r56:∀ x∈R,x%64=56->x=rH b
 r57:∀ x∈R,x%64=57->x=rL b
 r58:∀ x∈R,x%64=58->∃ c,x=rS b c
def pT.other{b':Nat}(i:pT tag I b' home h)(k:qd R ro tag I tag' I')(hR:ah0 b R)(hne:b'≠b):pT tag' I' b' home h:=by
 refine i.keep k (fun x hx e e'=>?_) (fun x hx e e'=>?_) (fun c hx=>?_) hR.r6
 .have:=hR.r56 x hx e;unfold rH at this;omega
 .have:=hR.r57 x hx e;unfold rL at this;omega
 .obtain⟨c',e⟩:=hR.r58 _ hx z7
  unfold rS at e
  exact hne (asz (b:=b') (c:=c) (b':=b) (c':=c') z7).1
section
variable{T M:Nat}{bs:List Nat}{t:Tbl}
def za.old{x x':xL}(h:za tag I T M bs t)(k:qd R ro tag I tag' I')(hR:ah0 b R)(hb:bs[i]?=some b)(hp:t[i]?=some (home,x))(hn:pT tag' I' b home x'):za tag' I' T M bs (wR t home x'):=
 ⟨h.cell.keep k hR.r55,h.map.write hb hp (h.map.map.keep k hR.r119) hn fun b' k' x hb' _ hA=>hA.other k hR hb'⟩
structure aba(tag:Nat->Nat)(I:AH)(bs:List Nat)(t:Tbl)(home:Str)(n:Int)(i b:Nat)(h:xL)(m:Nat)(cs:List Nat)(j c:Nat)(s:yf):Prop where
 hb:bs[i]?=some b
 hp:t[i]?=some (home,h)
 row:Row tag I (rH b) 254 ⟨some ⟨b,0,none⟩,2,2⟩ [vI h.last,.map (some m)]
 map:pc kI (afr tag I b home) tag I (rL b) m cs h.live
 hc:cs[j]?=some c
 hq:h.live[j]?=some (n,s)
 rng:1<=n/\n<=h.last
def aba.sess(f:aba tag I bs t home n i b h m cs j c s):afr tag I b home c n s:=f.map.at' j c n s f.hc f.hq
def aba.look(f:aba tag I bs t home n i b h m cs j c s)(hi:za tag I T M bs t):qj t home=some h/\qj h.live n=some s/\xM t (home,n)=(0,some s):=by
 have h1:qj t home=some h:=ale hi.map.keys (mW f.hp)
 have h2:qj h.live n=some s:=ale f.map.keys (mW f.hq)
 refine⟨h1,h2,?_⟩
 unfold xM
 rw[h1]
 simp only
 have:=f.rng
 rw[ma z7,h2]
def za.setS{s':yf}(hi:za tag I T M bs t)(f:aba tag I bs t home n i b h m cs j c s)(k:qd [rS b c] ro tag I tag' I')(hn:afr tag' I' b home c n s'):za tag' I' T M bs (aet t (home,n) s'):=by
 have hR:ah0 b [rS b c]:=by
  refine⟨by simp[rH,rL,rS]<;>omega,by simp[rH,rL,rS]<;>omega,by simp[rH,rL,rS]<;>omega,fun x hx e=>?_,fun x hx e=>?_,fun x hx e=>⟨c,mr.1 hx⟩⟩
  .rw[mr.1 hx]at e;unfold rS at e;omega
  .rw[mr.1 hx]at e;unfold rS at e;omega
 have hs:Zt.aet t (home,n) s'=wR t home {h with live:=wR h.live n s'}:=by unfold Zt.aet;rw[(f.look hi).1]
 rw[hs]
 refine hi.old k hR f.hb f.hp ⟨m,cs,f.row.keep k (by simp[rH,rL,rS]<;>omega),f.map.write f.hc f.hq (f.map.map.keep k (by simp[rH,rL,rS]<;>omega)) hn fun c' k' x hc _ hx=>hx.keep k (fun hm=>?_) (by simp[rH,rL,rS]<;>omega)⟩
 have e:=mr.1 hm
 unfold rS at e
 exact hc (asz (b:=b) (c:=c') (b':=b) (c':=c) z7).2
def za.delS(hi:za tag I T M bs t)(f:aba tag I bs t home n i b h m cs j c s)(k:qd [rL b] ro tag I tag' I')(hm:vm kI tag' I' (rL b) m (jt (kvP h.live cs) n)):za tag' I' T M bs (adL t (home,n)):=by
 have hR:ah0 b [rL b]:=by
  refine⟨by simp[rH,rL,rS]<;>omega,by simp[rH,rL,rS]<;>omega,by simp[rH,rL,rS]<;>omega,fun x hx e=>?_,fun x hx e=>mr.1 hx,fun x hx e=>?_⟩
  .rw[mr.1 hx]at e;unfold rL at e;omega
  .rw[mr.1 hx]at e;unfold rL at e;omega
 have hs:Zt.adL t (home,n)=wR t home {h with live:=jt h.live n}:=by unfold Zt.adL;rw[(f.look hi).1]
 rw[hs]
 exact hi.old k hR f.hb f.hp ⟨m,cs.eraseIdx j,f.row.keep k (by simp[rH,rL,rS]<;>omega),f.map.del f.hc f.hq hm fun c' k' x hx=>hx.keep k (by simp[rH,rL,rS]<;>omega) (by simp[rH,rL,rS]<;>omega)⟩
end
def aj0{κ α:Type}[DecidableEq κ]:∀ {m:List (κ×α)} {k:κ} {v:α},qj m k=some v->wR m k v=m
 | [],k,v,h=>by cases h
 | (k',v')::m,k,v,h=>by
  unfold qj at h
  unfold wR
  split at h
  .rename_i e;cases h;rw[mc e,e]
  .rename_i e;rw[ma e,aj0 h]
end Zt
namespace SL
open Go
variable{P:Program}{B:ZB}{ro I I':AH}{tag tag':Nat->Nat}
variable{j w:Nat}{s:Sl}
def aal(a:Addr)(p i:Nat):(a.add p).add i=a.add (p+i):=by
 cases p with
 | zero=>show a.add i=_;rw[ml]
 | succ p=>
  cases i with
  | zero=>rfl
  | succ i=>
   obtain⟨b,o,s⟩:=a
   cases s with
   | none=>simp[Addr.add];omega
   | some s=>simp[Addr.add];omega
def qJ.ptr{l:List Value}(h:qJ ro I s l)(hl:0<l.length):∃ p,s.a=some p/\∀ i v,l[i]?=some v->qa ro I (p.add i)=some v:=by
 cases e:s.a with
 | none=>have:=h.2.1 e;subst this;simp at hl
 | some p=>exact⟨p,rfl,h.2.2 p e⟩
def vt.at{l:List (List Value)}(h:vt ro I w s l){x:List Value}(hj:l[j]?=some x):∃ q,s.a=some q/\qe ro I (q.add (j*w)) 0 x:=by
 have hjl:j<l.length:=(List.getElem?_eq_some_iff.1 hj).1
 cases e:s.a with
 | none=>have:=h.2.1 e;subst this;simp at hjl
 | some q=>
  refine⟨q,rfl,zx 0 fun i v hv=>?_⟩
  have hw:=h.2.2.1 x (mW hj)
  have hi:i<w:=by
   have:=(List.getElem?_eq_some_iff.1 hv).1
   omega
  have:=h.2.2.2 q e (j*w+i) v (by rw[alb h.2.2.1 hj hi];exact hv)
  rw[ml,aal];exact this
end SL
namespace Wi
open Go SL G Zt
variable{B:ZB}{ro I I':AH}{tag tag':Nat->Nat}
variable{K Q:AH->Prop}{n:Int}{W m r:Nat}{s:Sl}{a:Str×Bool}
def af7:∀ (ps:List Str) (a:Str×Bool),(∀p∈ps,p.length<=m)->(ps.foldl wm a).1.length<=a.1.length+ps.length*(m+9)
 | [],a,_=>by simp
 | p::ps,a,h=>by
  have h1:=af7 ps (wm a p) fun q hq=>h q (by simp[hq])
  have h2:=pJ a p
  have h3:=h p y0
  rw[mY,mz,Nat.succ_mul]
  omega
def at8{ps:List Str}(h:vB tag I r W a.1 a.2)(hr:r≠1)(hs:SL.Sep ro I)(hm:∀ p∈ps,p.length<=m)(hl:a.1.length+ps.length*(m+9)<=140737488355328)
  (hx:∀ tag' I',qd [r,r+64,1] ro tag I tag' I'->SL.qJ ro I' s (ps.map Pa.vS))
  (hQ:∀ tag' I',qd [r,r+64,1] ro tag I tag' I'->vB tag' I' r W (ps.foldl wm a).1 (ps.foldl wm a).2->Q I'):vy B ro (some ⟨W,0,none⟩) s I Q:=by
 refine aeq fun _=>?_
 unfold un
 have hsl:s.len=ps.length:=by rw[(hx tag I (qd.refl hs)).1,mg]
 suffices∀(k j:Nat) (tag1:Nat->Nat) (I1:AH),j+k=ps.length->qd [r,r+64,1] ro tag I tag1 I1->vB tag1 I1 r W ((ps.take j).foldl wm a).1 ((ps.take j).foldl wm a).2->lfpD (kZ B ro (some ⟨W,0,none⟩) s Q) (j:Int) I1 from
  this _ 0 tag I (ml _) (qd.refl hs) (j4 h)
 have hps:ps.length<=140737488355328:=by
  have:ps.length*9<=ps.length*(m+9):=nO _ z7
  omega
 intro k
 induction k with
 | zero=>
  intro j tag1 I1 hj st h1
  refine lfpD.intro ?_
  unfold kZ
  rw[ma z7]
  rw[mD z7]at h1
  exact hQ tag1 I1 st h1
 | succ k ih=>
  intro j tag1 I1 hj st h1
  have hjl:j<ps.length:=by omega
  have hp0:=hm ps[j] (mJ hjl)
  have hlen:((ps.take j).foldl wm a).1.length+(9+ps[j].length)<=140737488355328:=by
   have:=af7 (ps.take j) a fun p hp=>hm p (nt hp)
   rw[nA,Nat.min_eq_left z7]at this
   have h2:(j+1)*(m+9)<=ps.length*(m+9):=Nat.mul_le_mul_right _ hjl
   rw[Nat.succ_mul]at h2
   omega
  obtain⟨p,hp,hg⟩:=(hx tag1 I1 st).ptr j2
  refine lfpD.intro ?_
  unfold kZ
  rw[mc z7]
  refine⟨p,hp,z7,z7,S ps[j],?_,_,rfl,?_⟩
  .rw[mq,mV]
   exact hg j _ (by rw[mh,md hjl];try rfl)
  have hl2:=xi ((ps.take j).foldl wm a) ps[j].length
  rw[show((S ps[j]).size:Int)=(ps[j].length:Nat)from by rw[<-kF,L_S]]
  refine al5 h1 hr st.sep z7 fun tag2 I2 st2 h2=>?_
  refine⟨_,rfl,?_⟩
  refine ahX h2 st2.sep (by rw[L_S];omega) fun _ _ tag3 I3 st3 h3=>?_
  rw[L_S]at h3
  rw[Pa.inc j z7]
  have e:(ps.take (j+1)).foldl wm a=wm ((ps.take j).foldl wm a) ps[j]:=by
   rw[mK,md hjl,List.foldl_append];try rfl
  refine ih (j+1) tag3 I3 z7 (st.trans (st2.trans (st3.mono y0))) ?_
  rw[e]
  exact h3
def xS{a:Str}(h:qr n=true):wS (a,false) n=(a++qH n.toNat,false):=by unfold wS;rw[mc h]
def aaP(h:qr n=false):(wS a n).2=true:=by unfold wS;rw[h];try rfl
def jP(h:a.2=true):(wS a n).2=true:=by unfold wS;split<;>simp[h]
def ag8{a p:Str}(h:p.length<4611686018427387904):wm (a,false) p=(a++vR p,false):=by
 unfold wm
 rw[xS (by unfold qr;simp;omega),mq]
 unfold vR
 simp
def ah1{p:Str}(h:a.2=true):(wm a p).2=true:=by unfold wm;exact jP h
def anG:∀ (ns:List Int) {a:Str×Bool},a.2=true->(ns.foldl wS a).2=true
 | [],_,h=>h
 | n::ns,a,h=>anG ns (a:=wS a n) (jP h)
def amf:∀ (ps:List Str) {a:Str×Bool},a.2=true->(ps.foldl wm a).2=true
 | [],_,h=>h
 | p::ps,a,h=>amf ps (a:=wm a p) (ah1 h)
def amg:∀ (ps:List Str) {a:Str},(∀p∈ps,p.length<4611686018427387904)->ps.foldl wm (a,false)=(a++ps.flatMap vR,false)
 | [],a,_=>by simp
 | p::ps,a,h=>by
  rw[mY,ag8 (h p y0),amg ps fun q hq=>h q (by simp[hq])]
  simp
def aj1(ns:List Int):∀ a:Str×Bool,(ns.foldl wS a).1.length<=a.1.length+9*ns.length:=by
 induction ns with
 | nil=>intro a;simp
 | cons n ns ih=>
  intro a
  have:=ih (wS a n)
  have:=xi a n
  rw[mY,mz];omega
def agJ(ns:List Int)(h:vB tag I r W a.1 a.2)(hr:r≠1/\r≠0)(hs:SL.Sep ro I)(hl:a.1.length+9*ns.length<=140737488355328)
  (hK:∀ tag' I',qd [r,r+64,1] ro tag I tag' I'->vB tag' I' r W (ns.foldl wS a).1 (ns.foldl wS a).2->K I'):
  nw ro I (.cells (ns.map Zt.vI).toArray 3) fun y I=>wZ B ro (some ⟨W,0,none⟩) (⟨some ⟨y,0,none⟩,ns.length,ns.length⟩:Sl) I K:=by
 refine qf (tag:=tag) 0 hs fun y tag1 I1 st1 r1=>?_
 rw[List.size_toArray,mg]at r1
 exact aqh (r:=r) (q:=0) (ns:=ns) (a:=a) hr.1 ⟨Ne.symm hr.2,z7,z7⟩ (h.keep (st1 [])) (st1 []).sep hl r1 fun tag2 I2 st2 h2=>hK tag2 I2 ((st1 _).trans st2) h2
def asA(p:Str)(h:vB tag I r W a.1 a.2)(hr:r≠1/\r≠0)(hs:SL.Sep ro I)(hl:a.1.length+9+p.length<=140737488355328)
  (hK:∀ tag' I',qd [r,r+64,1] ro tag I tag' I'->vB tag' I' r W (wm a p).1 (wm a p).2->K I'):
  nw ro I (.cells #[.string (S p)] 9) fun y I=>vy B ro (some ⟨W,0,none⟩) (⟨some ⟨y,0,none⟩,1,1⟩:Sl) I K:=by
 refine qf (tag:=tag) 0 hs fun y tag1 I1 st1 r1=>?_
 exact anz (r:=r) (q:=0) (p:=p) (a:=a) (h.keep (st1 [])) hr.1 ⟨Ne.symm hr.2,z7,z7⟩ (st1 []).sep hl r1 fun tag2 I2 st2 h2=>hK tag2 I2 ((st1 _).trans st2) h2
def awo(p:Str)(h:vB tag I r W a.1 a.2)(hr:r≠1/\r≠0)(hs:SL.Sep ro I)(hl:a.1.length+9+p.length<=140737488355328)
  (hsrc:∀ tag' I',qd [r,r+64,1] ro tag I tag' I'->SL.qJ ro I' s (p.map vU)) (hK:∀ tag' I',qd [r,r+64,1] ro tag I tag' I'->vB tag' I' r W (wm a p).1 (wm a p).2->K I'):
  nw ro I (.cells #[Sl.v s] 24) fun y I=>jR B ro (some ⟨W,0,none⟩) (⟨some ⟨y,0,none⟩,1,1⟩:Sl) I K:=by
 have hln:s.len=p.length:=by have:=(hsrc tag I (qd.refl hs)).1;rw[this,mg]
 refine qf (tag:=tag) 0 hs fun y tag1 I1 st1 r1=>?_
 exact anA (r:=r) (q:=0) (p:=p) (a:=a) (h.keep (st1 [])) hr.1 ⟨Ne.symm hr.2,z7,z7⟩ (st1 []).sep hl r1 hln (fun tag2 I2 st2=>hsrc tag2 I2 ((st1 _).trans st2)) fun tag2 I2 st2 h2=>hK tag2 I2 ((st1 _).trans st2) h2
end Wi
namespace Zt
open Go SL Pa Wi
variable{α:Type}{n:Nat}{x:Rep}
structure uv(x:Rep):Prop where
 data:x.data.length<=1048576
 res:∀ y∈x.results,y.1.length<=1048576
 names:∀ y∈x.names,y.length<=1048576
 evs:∀ y∈x.events,y.2.2.length<=1048576
def acr(a:Str×Bool)(y:Str×Int):Str×Bool:=wS (wm a y.1) y.2
def wev(a:Str×Bool)(y:Int×Int×Str):Str×Bool:=wm (wS (wS a y.1) y.2.1) y.2.2
def wr1(x:Rep):Str×Bool:=[x.code,x.session,(x.results.length:Int)].foldl wS ([],false)
def wr2(x:Rep):Str×Bool:=x.results.foldl acr (wr1 x)
def wr3(x:Rep):Str×Bool:=wm (wS (wr2 x) (x.bad+1)) x.data
def wr4(x:Rep):Str×Bool:=[x.ver,x.ctr,x.own,x.kids,(x.names.length:Int)].foldl wS (wr3 x)
def wr5(x:Rep):Str×Bool:=wS (x.names.foldl wm (wr4 x)) (x.events.length:Int)
def wr6(x:Rep):Str×Bool:=x.events.foldl wev (wr5 x)
def afP(x:Rep):Str×Bool:=wS (wr6 x) x.epoch
def alt{f:Str×Bool->α->Str×Bool}:∀ (l:List α) (a:Str×Bool),(∀a,∀y∈l,(f a y).1.length<=a.1.length+n)->(l.foldl f a).1.length<=a.1.length+n*l.length
 | [],a,_=>by simp
 | y::l,a,h=>by
  have h1:=alt l (f a y) fun a z hz=>h a z (by simp[hz])
  have h2:=h a y y0
  rw[mY,mz,Nat.mul_add]
  omega
def aiX{f:Str×Bool->α->Str×Bool}(h:∀ a y,a.2=true->(f a y).2=true):∀ (l:List α) {a:Str×Bool},a.2=true->(l.foldl f a).2=true
 | [],_,k=>k
 | y::l,a,k=>aiX h l (h a y k)
def at9(a:Str×Bool)(y:Str×Int):(acr a y).1.length<=a.1.length+18+y.1.length:=by
 unfold acr
 have:=xi (wm a y.1) y.2
 have:=pJ a y.1
 omega
def avv(a:Str×Bool)(y:Int×Int×Str):(wev a y).1.length<=a.1.length+27+y.2.2.length:=by
 unfold wev
 have:=pJ (wS (wS a y.1) y.2.1) y.2.2
 have:=xi (wS a y.1) y.2.1
 have:=xi a y.1
 omega
def anH(x:Rep)(hs:uv x)(h1:x.results.length<=16)(j:Nat):((x.results.take j).foldl acr (wr1 x)).1.length<=27+1048594*16:=by
 have h:=alt (f:=acr) (n:=1048594) (x.results.take j) (wr1 x) fun a y hy=>by
  have:=at9 a y
  have:=hs.res y (nt hy)
  omega
 have h0:(wr1 x).1.length<=27:=by have:=aj1 [x.code,x.session,(x.results.length:Int)] ([],false);simpa [wr1]using this
 have h2:(x.results.take j).length<=16:=by rw[nA];omega
 have h3:1048594*(x.results.take j).length<=1048594*16:=nO _ h2
 omega
def aqq(x:Rep)(hs:uv x)(h1:x.results.length<=16):(wr2 x).1.length<=27+1048594*16:=by
 have:=anH x hs h1 x.results.length
 rw[List.take_length]at this
 exact this
def aqr(x:Rep)(hs:uv x)(h1:x.results.length<=16):(wr4 x).1.length<=20000000:=by
 have a:=aqq x hs h1
 have b:=xi (wr2 x) (x.bad+1)
 have c:=pJ (wS (wr2 x) (x.bad+1)) x.data
 have d:=aj1 [x.ver,x.ctr,x.own,x.kids,(x.names.length:Int)] (wr3 x)
 have e:=hs.data
 unfold wr4 wr3 at*
 simp only[mz,nH]at d
 omega
def avw(x:Rep)(hs:uv x)(h1:x.results.length<=16)(h2:x.names.length<=4096):(wr5 x).1.length<=20000009+4096*1048585:=by
 have a:=aqr x hs h1
 have b:=af7 (m:=1048576) x.names (wr4 x) hs.names
 have c:x.names.length*(1048576+9)<=4096*1048585:=Nat.mul_le_mul_right _ h2
 have d:=xi (x.names.foldl wm (wr4 x)) (x.events.length:Int)
 unfold wr5
 omega
def ao7(x:Rep)(hs:uv x)(h1:x.results.length<=16)(h2:x.names.length<=4096)(h3:x.events.length<=32)(j:Nat):((x.events.take j).foldl wev (wr5 x)).1.length<=5000000000:=by
 have h:=alt (f:=wev) (n:=1048603) (x.events.take j) (wr5 x) fun a y hy=>by
  have:=avv a y
  have:=hs.evs y (nt hy)
  omega
 have h0:=avw x hs h1 h2
 have h4:(x.events.take j).length<=32:=by rw[nA];omega
 have h5:1048603*(x.events.take j).length<=1048603*32:=nO _ h4
 omega
def avx(x:Rep)(hs:uv x)(h1:x.results.length<=16)(h2:x.names.length<=4096)(h3:x.events.length<=32):(wr6 x).1.length<=5000000000:=by
 have:=ao7 x hs h1 h2 h3 x.events.length
 rw[List.take_length]at this
 exact this
def anI:∀ (l:List (Str×Int)) {a:Str},(∀y∈l,qr y.2=true/\y.1.length<4611686018427387904)->l.foldl acr (a,false)=(a++yA l,false)
 | [],a,_=>by simp[yA]
 | y::l,a,h=>by
  obtain⟨h1,h2⟩:=h y y0
  rw[mY]
  have:acr (a,false) y=(a++(vR y.1++qH y.2.toNat),false):=by
   unfold acr;rw[ag8 h2,xS h1,nl]
  rw[this,anI l fun z hz=>h z (by simp[hz])]
  unfold yA
  simp
def ao8:∀ (l:List (Int×Int×Str)) {a:Str},(∀y∈l,(qr y.1=true/\qr y.2.1=true)/\y.2.2.length<4611686018427387904)->l.foldl wev (a,false)=(a++jV l,false)
 | [],a,_=>by simp[jV]
 | y::l,a,h=>by
  obtain⟨⟨h1,h2⟩,h3⟩:=h y y0
  rw[mY]
  have:wev (a,false) y=(a++(qH y.1.toNat++(qH y.2.1.toNat++vR y.2.2)),false):=by
   unfold wev;rw[xS h1,xS h2,ag8 h3];simp
  rw[this,ao8 l fun z hz=>h z (by simp[hz])]
  unfold jV
  simp
def am6{f:Str×Bool->α->Str×Bool}(hb:∀ a y,a.2=true->(f a y).2=true){p:α->Prop}(hn:∀ a y,¬p y->(f a y).2=true):∀ (l:List α) {a:Str×Bool},(¬ ∀y∈l,p y)->(l.foldl f a).2=true
 | [],_,h=>mt (fun y hy=>by cases hy) h
 | y::l,a,h=>by
  rw[mY]
  by_cases c:p y
  .refine am6 hb hn l fun hall=>h fun z hz=>?_
   rcases mp.1 hz with rfl | hz
   .exact c
   .exact hall z hz
  .exact aiX hb l (hn a y c)
def acs{n:Int}(h:¬ qr n=true):qr n=false:=by simpa using h
def arj{l:List α}(h:l.length<=n)(hn:n<4611686018427387904):qr (l.length:Int)=true:=by rw[pC];omega
def ao9(a:Str×Bool)(y:Str×Int)(h:a.2=true):(acr a y).2=true:=by unfold acr;exact jP (ah1 h)
def aqs(a:Str×Bool)(y:Int×Int×Str)(h:a.2=true):(wev a y).2=true:=by unfold wev;exact ah1 (jP (jP h))
def apa(h:vv x)(hs:uv x):afP x=(afp x,false):=by
 obtain⟨h1,h2,h3,h4,h5,c1,c2,c3,c4,c5,c6,c7,h6,h7⟩:=h
 have e1:wr1 x=(qH x.code.toNat++qH x.session.toNat++qH x.results.length,false):=by
  unfold wr1
  simp only[mY,LK]
  rw[xS c1,xS c2,xS (arj h1 y1),mq];simp
 have e2:=anI x.results (a:=qH x.code.toNat++qH x.session.toNat++qH x.results.length) fun y hy=>⟨h6 y hy,by have:=hs.res y hy;omega⟩
 have cb:qr (x.bad+1)=true:=by rw[pC];omega
 unfold afP wr6 wr5 wr4 wr3 wr2
 rw[e1,e2,xS cb,ag8 (by have:=hs.data;omega)]
 simp only[mY,LK]
 rw[xS c3,xS c4,xS c5,xS c6,xS (arj h2 y1),mq,amg x.names fun y hy=>by have:=hs.names y hy;omega]
 rw[xS (arj h3 y1),mq,ao8 x.events fun y hy=>⟨h7 y hy,by have:=hs.evs y hy;omega⟩,xS c7]
 unfold afp
 simp only[nl,nF]
def avy(h:¬ vv x)(h1:x.results.length<=16)(h2:x.names.length<=4096)(h3:x.events.length<=32)(h5:x.bad<4611686018427387903):(afP x).2=true:=by
 have f6:(wr6 x).2=true->(afP x).2=true:=fun k=>jP k
 have f5:(wr5 x).2=true->(afP x).2=true:=fun k=>f6 (aiX aqs _ k)
 have f4:(wr4 x).2=true->(afP x).2=true:=fun k=>f5 (jP (amf _ k))
 have f3:(wr3 x).2=true->(afP x).2=true:=fun k=>f4 (anG _ k)
 have f2:(wr2 x).2=true->(afP x).2=true:=fun k=>f3 (ah1 (jP k))
 have f1:(wr1 x).2=true->(afP x).2=true:=fun k=>f2 (aiX ao9 _ k)
 by_cases c1:qr x.code=true
 .by_cases c2:qr x.session=true
  .by_cases c3:∀ y∈x.results,qr y.2=true
   .by_cases c4:qr (x.bad+1)=true
    .by_cases c5:qr x.ver=true
     .by_cases c6:qr x.ctr=true
      .by_cases c7:qr x.own=true
       .by_cases c8:qr x.kids=true
        .by_cases c9:∀ y∈x.events,qr y.1=true/\qr y.2.1=true
         .by_cases c10:qr x.epoch=true
          .have:=pC.1 c4
           exact mt ⟨h1,h2,h3,z7,h5,c1,c2,c5,c6,c7,c8,c10,c3,c9⟩ h
          .exact aaP (acs c10)
         .refine f6 (am6 (p:=fun y:Int×Int×Str=>qr y.1=true/\qr y.2.1=true) aqs (fun a y hy=>?_) _ c9)
          unfold wev
          refine ah1 ?_
          by_cases d:qr y.1=true
          .exact aaP (acs fun e=>hy ⟨d,e⟩)
          .exact jP (aaP (acs d))
        .exact f4 (jP (aaP (acs c8)))
       .exact f4 (jP (jP (aaP (acs c7))))
      .exact f4 (jP (jP (jP (aaP (acs c6)))))
     .exact f4 (jP (jP (jP (jP (aaP (acs c5))))))
    .exact f3 (ah1 (aaP (acs c4)))
   .refine f2 (am6 (p:=fun y:Str×Int=>qr y.2=true) ao9 (fun a y hy=>?_) _ c3)
    unfold acr
    exact aaP (acs hy)
  .exact f1 (jP (aaP (acs c2)))
 .exact f1 (jP (jP (aaP (acs c1))))
end Zt
namespace SL
open Go
section
variable{P:Program}{B:ZB}{ro:AH}{N:Nat}{ops:Array Oper}
def apb{cl:Nat->Nat}{K K':Fr->AH->Prop}(h:∀ fr I,jW B ro I->K fr I->K' fr I):∀ (l:List Nat) {fr:Fr} {I:AH},jW B ro I->qV P B ro N ops cl K l fr I->qV P B ro N ops cl K' l fr I
 | [],_,_,hl,hd=>h _ _ hl hd
 | x::l,_,_,hl,hd=>D1.mono hl (fun _ _ hl' hx=>apb h l hl' hx) hd
def anJ{cl:Nat->Nat}{K:Fr->AH->Prop}{i:Nat}:∀ (l:List Nat),qV P B ro N ops cl K (l++[i])=qV P B ro N ops cl (D1 P B ro N ops cl i K) l
 | []=>rfl
 | x::l=>by
  funext fr I
  show D1 P B ro N ops cl x (qV P B ro N ops cl K (l++[i])) fr I=_
  rw[anJ l];try rfl
def km.more{ψ:AH}{o:Oper}{fr:Fr}{u:ZC}(h:km P ro ae0 ops o fr u):km P (join ro ψ) ae0 ops o fr u:=by
 have key:∀ {α:Type} (s:Sem α) (a:α),qh P ro s ae0=some a->qh P (join ro ψ) s ae0=some a:=by
  intro α s
  induction s with
  | pure x=>intro a h;exact h
  | load m x k ih=>
   intro a h
   simp only[qh]at h⊢
   cases hc:qa ro ae0 x with
   | none=>rw[hc]at h;cases h
   | some v=>
    rw[hc]at h
    have:qa (join ro ψ) ae0 x=some v:=by
     unfold qa rd at hc⊢
     cases e:ro x.block with
     | none=>rw[e]at hc;simp[zF]at hc
     | some o=>rw[e]at hc;rw[vJ e];exact hc
    rw[this];exact ih v a h
  | program k ih=>intro a h;exact ih _ a h
  | mark m k ih=>intro a h;exact ih a h
  | _=>intro a h;cases h
 unfold km at h⊢
 split at h
 .exact fun O hρ=>key _ _ (h O hρ)
 .obtain⟨t,v,h1,h2,h3⟩:=h
  exact⟨t,v,h1,h2,h3.imp (fun⟨a,b⟩=>⟨a,fun O hρ=>key _ _ (b O hρ)⟩) id⟩
def aiY(P:Program)(B:ZB)(ro ψ:AH)(N:Nat)(ops:Array Oper)(cl:Nat->Nat)(Q:Fr->AH->Prop)(l2:List Nat):Fr->AH->Prop:=fun fr I=> ∃fr',wW fr' fr/\(qL ψ I->qV P B ro N ops cl Q l2 fr' (join ψ I))
def asB{φ ψ I:AH}{w:ZB}(hp:∀ b o,ψ b=some o->φ b=none/\ro b=none)(h:Own B (join ro ψ) φ I w):qL ψ I/\jW B ro (join ψ I):=by
 obtain⟨g1,g2⟩:=h.unlend hp
 exact⟨g2,φ,w,g1⟩
def asC{ψ I:AH}(hr:qL ψ ro)(h:jW B (join ro ψ) I):qL ψ I/\jW B ro (join ψ I):=by
 obtain⟨φ,w,h⟩:=h
 have h':Own B (join ro ψ) (fun _=>none) I w:=⟨h.os,h.tape,h.output,fun b o hs=>⟨(h.own b o hs).1,rfl,(h.own b o hs).2.2⟩,(fun _ _ e=>by cases e),h.ro⟩
 exact asB (fun b o hb=>⟨rfl,hr b o hb⟩) h'
def axd{cl:Nat->Nat}{Q:Fr->AH->Prop}(hK:abW Q){ψ:AH}(hr:qL ψ ro){i:Nat}(h0:cl i=0){l1 pre post:List Nat}(hs1:∀ x∈l1,abX ops cl x i=true)(hs2:∀ x∈pre,abX ops cl x i=true){fr:Fr}{I:AH}(hl:jW B (join ro ψ) I)
  (h:qV P B (join ro ψ) N ops cl (aiY P B ro ψ N ops cl Q (pre++i::post)) l1 fr I):D1 P B (join ro ψ) N ops cl i (qV P B (join ro ψ) N ops cl (aiY P B ro ψ N ops cl Q (pre++post)) l1) fr I:=by
 have hC:∀ l,abW (aiY P B ro ψ N ops cl Q l):=fun l fr fr' I he ⟨fr2,h1,h2⟩=>⟨fr2,fun i=>(h1 i).trans (he i),h2⟩
 have h1:qV P B (join ro ψ) N ops cl (D1 P B (join ro ψ) N ops cl i (aiY P B ro ψ N ops cl Q (pre++post))) l1 fr I:=by
  refine apb ?_ l1 hl h
  rintro fr I hl ⟨fr',he,hd⟩
  obtain⟨g1,g2⟩:=asC hr hl
  have hx:=aeF (P:=P) (B:=B) (N:=N) hK post pre hs2 g2 (hd g1)
  show D1 P B (join ro ψ) N ops cl i _ fr I
  unfold qV D1 at hx
  unfold D1
  cases ho:ops[i]? with
  | none=>rw[ho]at hx;exact hx
  | some o=>
   rw[ho]at hx
   simp only[h0]at hx⊢
   obtain⟨k1,u,k2,k3⟩:=hx
   exact⟨k1,u,(k2.eq he).more,qD o.dst u fr',he.put _ _,fun _=>k3⟩
 rw[<-anJ]at h1
 have:=aeF (P:=P) (B:=B) (N:=N) (hC (pre++post)) [] l1 hs1 hl h1
 rw[nk]at this
 exact this
def apc{cl:Nat->Nat}{anc:List (Nat×Nat)}(ha:aii ops anc=true)(hlt:∀ i,∀e∈ww ops i,e<i){Q:Exit->Fr->AH->Prop}(hK:abW (Q .normal)){φ ψ:AH}
  (hp:∀ b o,ψ b=some o->φ b=none/\ro b=none):
  ∀(m:Nat) (l1 l2:List Nat) (listed:Array Bool) {fr:Fr} {I:AH} {a:Act} {w:ZB},l1.length+l2.length=m->listed.size=ops.size->chk ops cl anc (l1++l2)=true->(∀j∈l2,cl j=0\/∀ i∈l1,i∈ww ops j\/(i,j)∈anc)->
   (∀i,i<ops.size->(listed.getD i true=false↔i∈l1++l2))->(∀i,i<ops.size->i∉l1++l2->∀ e∈ww ops i,e∉l1++l2)->
   qV P B (join ro ψ) N ops cl (aiY P B ro ψ N ops cl (Q .normal) l2) l1 fr I->Own B (join ro ψ) φ I w->xz N fr a->wpAny P .any ops (aie B ro N φ Q) m listed a w:=by
 have hC:∀ l,abW (aiY P B ro ψ N ops cl (Q .normal) l):=fun l fr fr' I he ⟨fr2,h1,h2⟩=>⟨fr2,fun i=>(h1 i).trans (he i),h2⟩
 have nil:∀ (m:Nat) (l2:List Nat) (listed:Array Bool) {fr:Fr} {I:AH} {a:Act} {w:ZB},l2.length=m->listed.size=ops.size->chk ops cl anc l2=true->(∀i,i<ops.size->(listed.getD i true=false↔i∈l2))->(∀i,i<ops.size->i∉l2->∀ e∈ww ops i,e∉l2)->
   aiY P B ro ψ N ops cl (Q .normal) l2 fr I->Own B (join ro ψ) φ I w->xz N fr a->wpAny P .any ops (aie B ro N φ Q) m listed a w:=by
  intro m l2 listed fr I a w hn hsz hc hli hcl h ho hf
  obtain⟨fr',he,hd⟩:=h
  obtain⟨g1,g2⟩:=ho.unlend hp
  exact ac0 ha hlt hK m l2 listed hn hsz hc hli hcl (hd g2) g1 ⟨hf.size,hf.defers,fun i v hi=>hf.has i v (by rw[<-he i];exact hi)⟩
 intro m
 induction m with
 | zero=>
  intro l1 l2 listed fr I a w hn hsz hc haft hli hcl h ho hf
  obtain rfl:l1=[]:=List.length_eq_zero_iff.1 z7
  exact nil 0 l2 listed (j4 hn) hsz hc hli hcl h ho hf
 | succ m ih=>
  intro l1 l2 listed fr I a w hn hsz hc haft hli hcl h ho hf
  by_cases hnil:l1=[]
  .subst hnil
   exact nil (m+1) l2 listed (j4 hn) hsz hc hli hcl h ho hf
  obtain⟨l,hl⟩:∃ l,l=l1++l2:=⟨_,rfl⟩
  rw[<-hl]at hc hli hcl
  have hlist:∀ e,e<ops.size->e∉l->listed.getD e false=true:=by
   intro e he hne
   have h1:¬ listed.getD e true=false:=fun q=>hne ((hli e he).1 q)
   have hlt':e<listed.size:=by omega
   simp only[mT,Array.getElem?_eq_getElem hlt',Option.getD_some]at h1⊢
   simpa using h1
  refine⟨?_,?_⟩
  .intro hr
   exfalso
   cases l with
   | nil=>have:=mj List.length hl;simp at this;omega
   | cons x rest=>
    have hx:=afg hc x (List.mem_cons_self ..)
    have:x∈Region.ready .any ops listed:=by
     refine aff.2 ⟨hx.1,(hli x hx.1).2 (List.mem_cons_self ..),ops[x],by simp[hx.1],?_⟩
     intro e he
     have he':e∈ww ops x:=by simp[ww,hx.1];exact he
     simp only[chk,mu]at hc
     have h1:=mI.1 hc.1.1.1.1 e he'
     simp only[mu,mS,Bool.not_eq_true',List.contains_iff_mem,<-nV]at h1
     exact hlist e (by have:=h1.1;omega) h1.2
    rw[hr]at this;cases this
  .intro i hi
   obtain⟨h1,h2,o,hoi,h3⟩:=aff.1 hi
   have hil:=(hli i h1).1 h2
   have hedge0:∀ e∈ww ops i,e∉l:=by
    intro e he hm
    have he2:e∈alH o:=by simpa [ww,hoi]using he
    have h4:=h3 e he2
    have hlt':=(afg hc e hm).1
    have:=(hli e hlt').2 hm
    have hs:e<listed.size:=by omega
    simp only[mT,Array.getElem?_eq_getElem hs,Option.getD_some]at this h4
    rw[this]at h4;cases h4
   have hanc:∀ x∈l,(x,i)∉anc:=fun x hxl h5=>by
    have hcl':∀ j,(j<ops.size->j∉l)->∀ e∈ww ops j,(e<ops.size->e∉l):=by
     intro j hj e he hes
     by_cases hjs:j<ops.size
     .exact hcl j hjs (hj hjs) e he
     .simp[ww,Array.getElem?_eq_none (Nat.le_of_not_lt hjs)]at he
    exact mt hxl (alI (L:=fun j=>j<ops.size->j∉l) ha hlt hcl' x i (fun e he _=>hedge0 e he) h5 (afg hc x hxl).1)
   have book:∀ pre post,l=pre++i::post->(∀x∈pre,abX ops cl x i=true)/\chk ops cl anc (pre++post)=true/\(∀j,j<ops.size->((listed.setIfInBounds i true).getD j true=false↔j∈pre++post))/\(∀j,j<ops.size->j∉pre++post->∀ e∈ww ops j,e∉pre++post):=by
    intro pre post hlp
    have hc0:=hc
    rw[hlp]at hc0
    have hpass:∀ x∈pre,abX ops cl x i=true:=by
     have gen:∀ (p:List Nat),chk ops cl anc (p++i::post)=true->∀ x∈p,abX ops cl x i=true\/x∈ww ops i\/(x,i)∈anc:=by
      intro p
      induction p with
      | nil=>intro _ x hx;cases hx
      | cons y p ihp=>
       intro hc x hx
       simp only[ng,chk,mu]at hc
       rcases mp.1 hx with rfl | hx
       .have:=mI.1 hc.1.2 i y0
        simp only[Bool.or_eq_true,List.contains_iff_mem]at this
        rcases this with(h | h) | h
        .exact .inl h
        .exact .inr (.inl h)
        .exact .inr (.inr h)
       .exact ihp hc.2 x hx
     intro x hx
     have hxm:x∈l:=by rw[hlp];exact Ll _ hx
     rcases gen pre hc0 x hx with h | h | h
     .exact h
     .exact mt hxm (hedge0 x h)
     .exact mt h (hanc x hxm)
    have hnd:i∉pre++post:=by
     have:(pre++i::post).Nodup:=by
      have gen:∀ l:List Nat,chk ops cl anc l=true->l.Nodup:=by
       intro l
       induction l with
       | nil=>intro _;exact List.nodup_nil
       | cons y r ihr=>
        intro hc
        simp only[chk,mu,Bool.not_eq_true']at hc
        refine nv.2 ⟨?_,ihr hc.2⟩
        have:=hc.1.1.1.2
        intro hm;rw[List.contains_iff_mem.2 hm]at this;cases this
      exact gen _ hc0
     have:=(List.perm_middle (a:=i) (l₁:=pre) (l₂:=post)).nodup_iff.1 this
     exact(nv.1 this).1
    have hc':chk ops cl anc (pre++post)=true:=by
     have gen:∀ (p:List Nat),chk ops cl anc (p++i::post)=true->chk ops cl anc (p++post)=true:=by
      intro p
      induction p with
      | nil=>intro hc;simp only[nF,chk,mu]at hc;exact hc.2
      | cons y p ihp=>
       intro hc
       simp only[ng,chk,mu]at hc⊢
       obtain⟨⟨⟨⟨c1,c2⟩,c3⟩,c4⟩,c5⟩:=hc
       refine⟨⟨⟨⟨?_,?_⟩,c3⟩,?_⟩,ihp c5⟩
       .refine mI.2 fun e he=>?_
        have:=mI.1 c1 e he
        simp only[mu,Bool.not_eq_true',<-nV,List.contains_iff_mem]at this⊢
        refine⟨this.1,fun hm=>this.2 ?_⟩
        simp only[mp,mv]at hm⊢
        rcases hm with h | h | h
        .exact .inl h
        .exact .inr (.inl h)
        .exact .inr (.inr (.inr h))
       .simp only[Bool.not_eq_true',<-nV,List.contains_iff_mem]at c2⊢
        intro hm;apply c2
        simp only[mv,mp]at hm⊢
        exact hm.imp id .inr
       .refine mI.2 fun j hj=>mI.1 c4 j ?_
        simp only[mv,mp]at hj⊢
        exact hj.imp id .inr
     exact gen pre hc0
    have hmem:∀ j,j∈pre++post↔j∈l/\j≠i:=by
     intro j
     rw[hlp]
     simp only[mv,mp]
     constructor
     .intro(hh:j∈pre\/j∈post)
      refine⟨hh.imp id .inr,fun e=>?_⟩
      subst e;exact hnd (mv.2 hh)
     .rintro⟨h | h | h,hne⟩
      .exact .inl h
      .exact mt h hne
      .exact .inr h
    refine⟨hpass,hc',fun j hj=>?_,fun j hj hjn e he hm=>?_⟩
    .rw[hmem]
     by_cases e:j=i
     .subst e
      have:j<listed.size:=by omega
      simp[mT,this]
     .rw[ac0.Region_getD_set e]
      constructor
      .intro h;exact⟨(hli j hj).1 h,e⟩
      .intro h;exact(hli j hj).2 h.1
    .have hm':=((hmem e).1 hm).1
     by_cases e':j=i
     .subst e';exact hedge0 e he hm'
     .exact hcl j hj (fun hh=>hjn ((hmem j).2 ⟨hh,e'⟩)) e he hm'
   rw[hl]at hil
   rcases mv.1 hil with hi1 | hi2
   .obtain⟨pre,post1,rfl⟩:=List.append_of_mem hi1
    obtain⟨b1,b2,b3,b4⟩:=book pre (post1++l2) (by rw[hl];simp)
    rw[<-nl]at b2 b3 b4
    have hd:=aeF (P:=P) (B:=B) (N:=N) (hC l2) post1 pre b1 ⟨φ,w,ho⟩ h
    refine ac0.D1.sound hoi hd ho hf fun fr I a w hk ho hf=>ih (pre++post1) l2 _ ?_ (j4 hsz) b2 (fun j hj=>?_) b3 b4 hk ho hf
    .simp at hn ⊢;omega
    .exact(haft j hj).imp id fun h x hx=>h x (by simp only[mv,mp]at hx ⊢;exact hx.imp id .inr)
   .have h0:cl i=0:=by
     rcases haft i hi2 with h | h
     .exact h
     .exfalso
      cases l1 with
      | nil=>exact hnil rfl
      | cons x r=>
       have hxl:x∈l:=by rw[hl];exact Ll _ (List.mem_cons_self ..)
       rcases h x (List.mem_cons_self ..)with h5 | h5
       .exact hedge0 x h5 hxl
       .exact hanc x hxl h5
    obtain⟨pre,post,rfl⟩:=List.append_of_mem hi2
    obtain⟨b1,b2,b3,b4⟩:=book (l1++pre) post (by rw[hl];simp)
    rw[nl]at b2 b3 b4
    have hr:qL ψ ro:=fun b o hb=>(hp b o hb).2
    have hd:=axd (P:=P) (B:=B) (N:=N) hK hr h0 (fun x hx=>b1 x (Ll _ hx)) (fun x hx=>b1 x (List.mem_append_right _ hx)) ⟨φ,w,ho⟩ h
    refine ac0.D1.sound hoi hd ho hf fun fr I a w hk ho hf=>ih l1 (pre++post) _ ?_ (j4 hsz) b2 (fun j hj=>haft j (by simp only[mv,mp]at hj ⊢;exact hj.imp id .inr)) b3 b4 hk ho hf
    simp at hn ⊢;omega
def awq(ops:Array Oper)(cl:Nat->Nat)(anc:List (Nat×Nat))(l1 l2:List Nat):Bool:=l2.all fun j=>cl j == 0 || l1.all fun i=>(ww ops j).contains i || anc.contains (i,j)
def AW.drawn2{id:Nat}{Q:Exit->Fr->AH->Prop}{fr:Fr}{I:AH}{K:AH->AH->Prop}(cl:Nat->Nat)(anc:List (Nat×Nat))(l1 l2:List Nat)(hm:P.follows .mixedOrders=true)(hl:jX I K)
  (hc:(chk ops cl anc (l1++l2) && aii ops anc && full ops.size (l1++l2) && ((l1++l2).length == ops.size) && awq ops cl anc l1 l2)=true)
  (h:∀ ψ τ,K ψ τ->qV P B (join ro ψ) N ops cl (fun fr I=> ∃fr',wW fr' fr/\(qL ψ I->qV P B ro N ops cl (fun fr I=> ∃fr',wW fr' fr/\Q .normal fr' I) l2 fr' (join ψ I))) l1 fr τ):AW P B ro N (.region id ops true) Q fr I:=by
 obtain⟨ψ,τ,hd,rfl,hk⟩:=hl
 have h:=h ψ τ hk
 simp only[mu,beq_iff_eq]at hc
 obtain⟨⟨⟨⟨c1,c2⟩,c3⟩,c4⟩,c5⟩:=hc
 intro φ w a ho hf
 refine wp_region_any hm ?_
 have hp:∀ b o,ψ b=some o->φ b=none/\ro b=none:=fun b o hs=>(ho.own b o (vJ hs)).2
 have hall:∀ i,i<ops.size->i∈l1++l2:=fun i hi=>List.contains_iff_mem.1 (mI.1 c3 i (List.mem_range.2 hi))
 have hlt:∀ i,∀e∈ww ops i,e<i:=by
  intro i e he
  by_cases hi:i<ops.size
  .exact(afg c1 i (hall i hi)).2 e he
  .simp[ww,Array.getElem?_eq_none (Nat.le_of_not_lt hi)]at he
 have hw:Own B (join ro ψ) φ τ {w with drawn:=w.drawn+1}:=(ho.lend hd).drawn _
 have haft:∀ j∈l2,cl j=0\/∀ i∈l1,i∈ww ops j\/(i,j)∈anc:=fun j hj=>by
  have:=mI.1 c5 j hj
  simp only[Bool.or_eq_true,beq_iff_eq]at this
  refine this.imp (fun x=>x) fun h i hi=>?_
  have:=mI.1 h i hi
  simpa using this
 have:=apc (P:=P) (B:=B) (ro:=ro) (N:=N) (ops:=ops) (cl:=cl) (anc:=anc) c2 hlt
  (Q:=fun e fr I=>e= .normal/\∃ fr',wW fr' fr/\Q .normal fr' I)
  (fun fr fr' I he ⟨h0,fr2,h1,h2⟩=>⟨h0,fr2,fun i=>(h1 i).trans (he i),h2⟩) (φ:=φ) (ψ:=ψ) hp (l1.length+l2.length) l1 l2 (Array.replicate ops.size false)
  (w:={w with drawn:=w.drawn+1}) (a:=a) (fr:=fr) (I:=τ) rfl y0 c1 haft
  (fun i hi=>⟨fun _=>hall i hi,fun _=>by simp[hi]⟩) (fun i hi hn=>mt (hall i hi) hn) ?_ hw hf
 .have hlen:l1.length+l2.length=ops.size:=by rw[<-mA];exact c4
  rw[hlen]at this
  refine AW.drawn.wpAny_post ?_ _ _ this
  rintro e a' w' ⟨fr',I',⟨rfl,fr2,he,hq⟩,ho',hf'⟩
  exact⟨fr2,_,hq,ho',⟨hf'.size,hf'.defers,fun i v hi=>hf'.has i v (by rw[<-he i];exact hi)⟩⟩
 .refine AW.drawn.DOps_post ?_ l1 h
  rintro fr I ⟨fr',h1,h2⟩;refine⟨fr',h1,fun hd=>AW.drawn.DOps_post ?_ l2 (h2 hd)⟩
  intro fr I hk;exact⟨rfl,hk⟩
end