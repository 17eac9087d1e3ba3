import Derived.Test.YtomdigihapdhnaaGreatDoorXL
set_option linter.all false
set_option maxRecDepth 99999
set_option maxHeartbeats 0
open Go.IntKind(i64)
namespace Go.Proofs.YtomdigihapdhnaaGreatDoor
namespace Zt
open Go SL Pa Wi
theorem ajB{b:Nat}{st:St}{p:Str}{v:Int}(h:wD b st)(hb:b<=4398046511103):wD b (wL st p v).1:=by
 have hi:=aj8 (p:=p) (v:=v) h.inv (by have:=h.len;omega)
 have hlen:=aj7 st p v
 rcases abW st p v with⟨e,_,he⟩ | ⟨n,u,he,hn,hne,hu,hk⟩
 .rw[he];exact h
 .rw[he]at hi hlen⊢
  simp only at hi hlen⊢
  have hnd:((wH st u yv).map (·.1)).Nodup:=by rw[ud];exact h.inv.keys
  have hl:∀ k m,(yi (wH st u yv) p).lookup k=some m->∃ m',st.lookup k=some m'/\(m=m'\/m=yv m'):=fun k m hk=>by
   rw[abr hnd]at hk
   split at hk
   .cases hk
   .rw[vj]at hk
    split at hk
    .obtain⟨m',h1,h2⟩:=Option.map_eq_some_iff.1 hk
     exact⟨m',h1,.inr h2.symm⟩
    .exact⟨m,hk,.inl rfl⟩
  refine⟨hi,fun k m hk=>?_,fun k m hk=>?_,fun m hk=>?_,by have:=h.len;omega⟩
  .obtain⟨m',h1,h2⟩:=hl k m hk
   have:=h.ver k m' h1
   rcases h2 with rfl | rfl
   .omega
   .show 0<=m'.ver/\m'.ver<=_;omega
  .obtain⟨m',h1,h2⟩:=hl k m hk
   have:=h.own k m' h1
   rcases h2 with rfl | rfl
   .exact this
   .exact this
  .obtain⟨m',h1,h2⟩:=hl _ m hk
   have:=h.rt m' h1
   rcases h2 with rfl | rfl
   .exact this
   .exact this
theorem aoG{b:Nat}{st:St}{home:Str}{ws:List Int}(h:wD b st)(hb:b<=4398046511103):wD b (yW st home ws).1:=by
 have key:∀ (ks:List Str) (a:St×List Str),wD b a.1->wD b (ks.foldl (ya home) a).1:=by
  intro ks
  induction ks with
  | nil=>intro a h;exact h
  | cons k ks ih=>
   intro a h
   rw[List.foldl_cons]
   refine ih _ ?_
   unfold ya
   split
   .exact ajB h hb
   .exact h
 exact key _ _ h
structure agp(b:Nat)(s:yw):Prop where
 nonce:okN s.nonce=true
 lease:1<=s.lease/\s.lease<=1048576
 beats:0<=s.beats/\s.beats<=b
 req:0<=s.req/\s.req<=4611686018427387903
 reply:s.reply.length<=1048576
structure adD(b:Nat)(h:xz):Prop where
 last:0<=h.last/\h.last<=b
 keys:(h.live.map (·.1)).Nodup
 rng:∀ p∈h.live,1<=p.1/\p.1<=h.last
 non:(h.live.map (·.2.nonce)).Nodup
 len:h.live.length<=64
 ok:∀ p∈h.live,agp b p.2
structure ab3(b:Nat)(k:Str×Int)(d:jP):Prop where
 room:d.events.length+d.marks.length<=32
 last:0<=d.last/\d.last+d.marks.length<=b
 evs:∀ e∈d.events,(1<=e.1/\e.1<=d.last)/\(1<=e.2.1/\e.2.1<=4)/\e.2.2.length<=128
 ack:0<=d.acked/\d.acked<=d.last
 nd:d.marks.Nodup
 mks:∀ m∈d.marks,adi k m=0
structure kd(b:Nat)(t:Tbl):Prop where
 keys:(t.map (·.1)).Nodup
 ok:∀ p∈t,wo p.1=true/\adD b p.2
 len:t.length<=b
structure kx(b:Nat)(h:Hub):Prop where
 keys:(h.map (·.1)).Nodup
 ok:∀ p∈h,ab3 b p.1 p.2
 len:h.length<=b
structure kO(b:Nat)(s:Sto):Prop where
 tree:wD (20*b) s.tree
 tbl:kd b s.tbl
 hub:kx b s.hub
 ep:0<=s.epoch/\s.epoch<=b
 mem:s.members.length<=7
theorem agp.mono{b c:Nat}{s:yw}(h:agp b s)(hc:b<=c):agp c s:=⟨h.nonce,h.lease,by have:=h.beats;omega,h.req,h.reply⟩
theorem adD.mono{b c:Nat}{h:xz}(k:adD b h)(hc:b<=c):adD c h:=⟨by have:=k.last;omega,k.keys,k.rng,k.non,k.len,fun p hp=>(k.ok p hp).mono hc⟩
theorem ab3.mono{b c:Nat}{k:Str×Int}{d:jP}(h:ab3 b k d)(hc:b<=c):ab3 c k d:=⟨h.room,by have:=h.last;omega,h.evs,h.ack,h.nd,h.mks⟩
theorem kd.mono{b c:Nat}{t:Tbl}(h:kd b t)(hc:b<=c):kd c t:=⟨h.keys,fun p hp=>⟨(h.ok p hp).1,(h.ok p hp).2.mono hc⟩,by have:=h.len;omega⟩
theorem kx.mono{b c:Nat}{t:Hub}(h:kx b t)(hc:b<=c):kx c t:=⟨h.keys,fun p hp=>(h.ok p hp).mono hc,by have:=h.len;omega⟩
section
variable{κ α:Type}[DecidableEq κ]
theorem ad9{m:List (κ×α)}{k:κ}{a:α}:(ze m k a).map (·.1)=if k∈m.map (·.1)then m.map (·.1)else m.map (·.1)++[k]:=by
 induction m with
 | nil=>simp[ze]
 | cons p m ih=>
  obtain⟨pk,pa⟩:=p
  unfold ze
  by_cases c:k=pk
  .subst c;simp
  .rw[if_neg c,List.map_cons,ih,List.map_cons]
   by_cases e:k∈m.map (·.1)
   .rw[if_pos e,if_pos (by simp only[List.mem_cons];exact .inr e)]
   .rw[if_neg e,if_neg (by simp only[List.mem_cons,not_or];exact⟨c,e⟩)];rfl
theorem ahf{m:List (κ×α)}{k:κ}{a:α}(h:(m.map (·.1)).Nodup):((ze m k a).map (·.1)).Nodup:=by
 rw[ad9]
 split
 .exact h
 .rename_i e
  rw[List.nodup_append]
  exact⟨h,by simp,fun x hx y hy he=>e (by simp at hy;rw[<-hy,<-he];exact hx)⟩
theorem ahg{m:List (κ×α)}{k:κ}{a:α}{p:κ×α}(h:p∈ze m k a):p=(k,a)\/(p∈m):=by
 induction m with
 | nil=>simp[ze]at h;exact .inl h
 | cons q m ih=>
  obtain⟨pk,pa⟩:=q
  unfold ze at h
  split at h
  .rcases List.mem_cons.1 h with h | h
   .exact .inl h
   .exact .inr (by simp[h])
  .rcases List.mem_cons.1 h with h | h
   .exact .inr (by simp[h])
   .rcases ih h with h | h
    .exact .inl h
    .exact .inr (by simp[h])
theorem ajC{m:List (κ×α)}{k:κ}{a:α}:(ze m k a).length=if k∈m.map (·.1)then m.length else m.length+1:=by
 have:=congrArg List.length (ad9 (m:=m) (k:=k) (a:=a))
 rw[List.length_map]at this
 rw[this]
 split<;>simp
theorem anj{m:List (κ×α)}{k:κ}{a x:α}(h:qT m k=some x):(ze m k a).length=m.length:=by
 rw[ajC,if_pos (by rw[<-Classical.not_not (a:=k∈_),<-xO,h];simp)]
theorem ahh{m:List (κ×α)}{k:κ}:(jM m k).Sublist m:=by
 induction m with
 | nil=>exact List.Sublist.slnil
 | cons p m ih=>
  obtain⟨pk,pa⟩:=p
  unfold jM
  split
  .exact List.sublist_cons_self _ _
  .exact ih.cons_cons _
end
end Zt
namespace Zt
open Go SL Pa Wi
theorem asn{n:Int}:okN n=true↔1<=n/\n<=4611686018427387903:=by unfold okN;simp
theorem ahi{b:Nat}{t:Tbl}{k:Str}{h:xz}(i:kd b t)(hk:qT t k=some h):wo k=true/\adD b h:=i.ok _ (uK hk)
theorem akf{b:Nat}{t:Tbl}(i:kd b t)(k:Str):adD b (qX t k):=by
 unfold qX
 cases e:qT t k with
 | none=>exact⟨⟨by show(0:Int)<=0;omega,by show(0:Int)<=b;omega⟩,List.nodup_nil,(fun p h=>by cases h),List.nodup_nil,Nat.zero_le _,fun p h=>by cases h⟩
 | some h=>exact(ahi i e).2
theorem akT{b:Nat}{t:Tbl}{k:Str}{h:xz}(i:kd b t)(hn:wo k=true)(hh:adD b h)(hl:(qT t k).isSome=true\/t.length+1<=b):kd b (ze t k h):=by
 refine⟨ahf i.keys,fun p hp=>?_,?_⟩
 .rcases ahg hp with rfl | hp
  .exact⟨hn,hh⟩
  .exact i.ok p hp
 .rw[ajC]
  have:=i.len
  split
  .exact this
  .rename_i hm
   rw[<-xO]at hm
   rcases hl with hl | hl
   .rw[hm]at hl;cases hl
   .exact hl
theorem apR{b:Nat}{t:Tbl}{home:Str}{nonce lease:Int}(i:kd b t):kd (b+1) (vC t home nonce lease).1:=by
 unfold vC
 split
 .exact i.mono (by omega)
 rename_i h1
 split
 .exact i.mono (by omega)
 rename_i h2
 split
 .exact i.mono (by omega)
 rename_i h3
 split
 .exact i.mono (by omega)
 rename_i h4
 split
 .exact i.mono (by omega)
 rename_i h5
 simp only[Bool.not_eq_false]at h1 h2
 obtain⟨a1,a2,a3,a4,a5,a6⟩:=akf i home
 have hnk:qT (qX t home).live ((qX t home).last+1)=none:=by
  rw[xO]
  intro hm
  obtain⟨p,hp,e⟩:=List.mem_map.1 hm
  have:=(a3 p hp).2
  omega
 refine akT (i.mono (by omega)) h1 ?_ (.inr (by have:=i.len;omega))
 unfold ama
 rw[ajw _ hnk]
 simp only[not_or]at h5
 have hnn:∀ p∈(qX t home).live,p.2.nonce≠nonce:=fun p hp e=>by
  unfold afA at h4
  have:=List.find?_eq_none.1 h4 p hp
  simp[e]at this
 refine⟨by simp only;omega,?_,fun p hp=>?_,?_,by simp;omega,fun p hp=>?_⟩
 .simp only
  rw[List.map_append,List.nodup_append]
  rw[xO]at hnk
  exact⟨a2,by simp,fun x hx y hy e=>hnk (by simp at hy;rw[<-hy,<-e];exact hx)⟩
 .rcases List.mem_append.1 hp with hp | hp
  .have:=a3 p hp;simp only;omega
  .rw[List.mem_singleton.1 hp];simp only;omega
 .simp only
  rw[List.map_append,List.nodup_append]
  refine⟨a4,by simp,fun x hx y hy e=>?_⟩
  obtain⟨p,hp,rfl⟩:=List.mem_map.1 hx
  simp at hy
  exact hnn p hp (by rw[e,hy])
 .rcases List.mem_append.1 hp with hp | hp
  .exact(a6 p hp).mono (by omega)
  .rw[List.mem_singleton.1 hp]
   exact⟨h2,(by show 1<=lease/\lease<=1048576;omega),⟨by show(0:Int)<=0;omega,by show(0:Int)<=((b+1:Nat):Int);omega⟩,⟨by show(0:Int)<=0;omega,by show(0:Int)<=4611686018427387903;omega⟩,Nat.zero_le _⟩
theorem akg{t:Tbl}{k:Str×Int}{e:Int}{s:yw}(h:yx t k=(e,some s)):e=0/\∃ hs,qT t k.1=some hs/\1<=k.2/\k.2<=hs.last/\qT hs.live k.2=some s:=by
 unfold yx at h
 split at h
 .cases h
 .rename_i hs e1
  split at h
  .cases h
  .rename_i e2
   split at h
   .cases h
   .rename_i s' e3
    cases h
    exact⟨rfl,hs,e1,by omega,by omega,e3⟩
theorem ab4(t:Tbl)(k:Str×Int):(∃s,yx t k=(0,some s))\/∃ e,(e=150\/e=151)/\yx t k=(e,none):=by
 unfold yx
 split
 .exact .inr ⟨150,.inl rfl,rfl⟩
 .split
  .exact .inr ⟨150,.inl rfl,rfl⟩
  .split
   .exact .inr ⟨151,.inr rfl,rfl⟩
   .exact .inl ⟨_,rfl⟩
theorem amF{b:Nat}{t:Tbl}{k:Str×Int}{s s':yw}(i:kd b t)(hf:yx t k=(0,some s))(hn:s'.nonce=s.nonce)(hs:agp b s'):kd b (ahe t k s'):=by
 obtain⟨_,hh,h1,h2,h3,h4⟩:=akg hf
 unfold ahe
 rw[h1]
 obtain⟨hk,a1,a2,a3,a4,a5,a6⟩:=ahi i h1
 refine akT i hk ?_ (.inl (by rw[h1];rfl))
 have hmem:=uK h4
 obtain⟨j,hj,ej⟩:=List.getElem_of_mem hmem
 have hj':hh.live[j]?=some (k.2,s):=by rw[List.getElem?_eq_getElem hj,ej]
 refine⟨a1,ahf a2,fun p hp=>?_,?_,by simp only;rw[anj h4];exact a5,fun p hp=>?_⟩
 .rcases ahg hp with rfl | hp
  .exact⟨h2,h3⟩
  .exact a3 p hp
 .simp only
  rw[ae9 s' a2 hj']
  have:(hh.live.set j (k.2,s')).map (·.2.nonce)=hh.live.map (·.2.nonce):=by
   apply List.ext_getElem?
   intro x
   rw[List.map_set,List.getElem?_set,List.getElem?_map]
   by_cases e:j=x
   .subst e;rw[hj'];simp[hj,hn]
   .rw[if_neg e]
  rw[this];exact a4
 .rcases ahg hp with rfl | hp
  .exact hs
  .exact a6 p hp
theorem agq{b:Nat}{t:Tbl}{k:Str×Int}{s:yw}(i:kd b t)(hf:yx t k=(0,some s)):agp b s:=by
 obtain⟨_,hh,h1,h2,h3,h4⟩:=akg hf
 exact(ahi i h1).2.ok _ (uK h4)
theorem amG{b:Nat}{t:Tbl}{k:Str×Int}(i:kd b t):kd b (af1 t k):=by
 unfold af1
 split
 .exact i
 rename_i hh h1
 obtain⟨hk,a1,a2,a3,a4,a5,a6⟩:=ahi i h1
 refine akT i hk ?_ (.inl (by rw[h1];rfl))
 have hsub:(jM hh.live k.2).Sublist hh.live:=ahh
 exact⟨a1,List.Nodup.sublist (hsub.map _) a2,fun p hp=>a3 p (hsub.subset hp),List.Nodup.sublist (hsub.map _) a4,by have:=hsub.length_le;simp only;omega,fun p hp=>a6 p (hsub.subset hp)⟩
theorem aoH{b:Nat}{t:Tbl}{k:Str×Int}(i:kd b t):kd (b+1) (ab1 t k).1:=by
 unfold ab1
 rcases ab4 t k with⟨s,e⟩ | ⟨x,_,e⟩
 .rw[e]
  have hs:=agq i e
  exact amF (i.mono (by omega)) e rfl ⟨hs.nonce,hs.lease,by have:=hs.beats;simp only;omega,hs.req,hs.reply⟩
 .rw[e];exact i.mono (by omega)
theorem aq5{b:Nat}{t:Tbl}{k:Str×Int}{req:Int}{d:Str}(i:kd b t)(hd:d.length<=1048576):kd b (aeu t k req d).1:=by
 unfold aeu
 rcases ab4 t k with⟨s,e⟩ | ⟨x,_,e⟩
 .rw[e]
  have hs:=agq i e
  simp only
  split
  .exact i
  .rename_i hn
   split
   .exact i
   .simp only[Bool.not_eq_false]at hn
    have:=asn.1 hn
    exact amF i e rfl ⟨hs.nonce,hs.lease,hs.beats,by simp only;omega,hd⟩
 .rw[e];exact i
theorem af3{b:Nat}{t:Tbl}{k:Str×Int}{n:Int}(i:kd b t):kd b (kw t k n).1:=by
 unfold kw
 rcases ab4 t k with⟨s,e⟩ | ⟨x,_,e⟩
 .rw[e]
  simp only
  split
  .exact amG i
  .exact i
 .rw[e];exact i
theorem ahj{b:Nat}{t:Tbl}{k:Str×Int}(i:kd b t):kd b (aap t k).1:=by
 unfold aap
 rcases ab4 t k with⟨s,e⟩ | ⟨x,_,e⟩
 .rw[e];exact amG i
 .rw[e];exact i
theorem anY{b:Nat}{h:Hub}{k:Str×Int}{d:jP}(i:kx b h)(hd:ab3 b k d)(hl:(qT h k).isSome=true\/h.length+1<=b):kx b (ze h k d):=by
 refine⟨ahf i.keys,fun p hp=>?_,?_⟩
 .rcases ahg hp with rfl | hp
  .exact hd
  .exact i.ok p hp
 .rw[ajC]
  have:=i.len
  split
  .exact this
  .rename_i hm
   rw[<-xO]at hm
   rcases hl with hl | hl
   .rw[hm]at hl;cases hl
   .exact hl
theorem apS{b:Nat}{h:Hub}(i:kx b h)(k:Str×Int):ab3 b k (vp h k):=by
 unfold vp
 cases e:qT h k with
 | none=>exact⟨by show 0+0<=32;omega,⟨by show(0:Int)<=0;omega,by show(0:Int)+(0:Nat)<=b;omega⟩,(fun p h=>by cases h),⟨by show(0:Int)<=0;omega,by show(0:Int)<=0;omega⟩,List.nodup_nil,fun p h=>by cases h⟩
 | some d=>exact i.ok _ (uK e)
theorem amH{b:Nat}{h:Hub}{k:Str×Int}{m:xR}(i:kx b h):kx (b+1) (pC h k m).1:=by
 unfold pC
 split
 .exact i.mono (by omega)
 rename_i h1
 simp only[Classical.not_not]at h1
 split
 .exact i.mono (by omega)
 rename_i h2
 obtain⟨a1,a2,a3,a4,a5,a6⟩:=apS i k
 refine anY (i.mono (by omega)) ?_ (.inr (by have:=i.len;omega))
 unfold aq3
 by_cases c:m∈(vp h k).marks
 .rw[if_pos c]
  exact⟨a1,by simp only;omega,a3,a4,a5,a6⟩
 .rw[if_neg c]
  simp only[not_and]at h2
  have:=h2 c
  refine⟨by simp;omega,by simp;omega,a3,a4,?_,fun x hx=>?_⟩
  .simp only
   rw[List.nodup_append]
   exact⟨a5,by simp,fun x hx y hy e=>c (by simp at hy;rw[<-hy,<-e];exact hx)⟩
  .rcases List.mem_append.1 hx with hx | hx
   .exact a6 x hx
   .rw[List.mem_singleton.1 hx];exact h1
theorem aq6{p h:Str}(hh:qF p=some h):p.length<=128:=by
 unfold qF at hh
 split at hh
 .rename_i x r e
  obtain⟨e1,e2⟩:=wa.1 e
  rw[e1];exact e2.len
 .cases hh
theorem aq7{k:Str×Int}{m:xR}(h:adi k m=0):m.1.length<=128:=aq6 (ani h).1
theorem aq8{b:Nat}{k:Str×Int}{d:jP}{m:xR}{kind:Int}(i:ab3 b k d)(hk:1<=kind/\kind<=4):ab3 b k (aeM m kind d):=by
 unfold aeM
 split
 .rename_i hm
  obtain⟨a1,a2,a3,a4,a5,a6⟩:=i
  have hl:=List.length_erase_of_mem hm
  have hp:=List.length_pos_of_mem hm
  unfold akS
  refine⟨by simp;omega,by simp only;omega,fun e he=>?_,by simp only;omega,a5.erase _,fun x hx=>a6 x (List.mem_of_mem_erase hx)⟩
  rcases List.mem_append.1 he with he | he
  .have:=a3 e he
   exact⟨by simp only;omega,this.2⟩
  .rw[List.mem_singleton.1 he]
   exact⟨by simp only;omega,by simp only;omega,aq7 (a6 m hm)⟩
 .exact i
theorem acB{b:Nat}{h:Hub}{m:xR}{kind:Int}(i:kx b h)(hk:1<=kind/\kind<=4):kx b (pn h m kind):=by
 unfold pn
 refine⟨by rw[List.map_map];exact i.keys,fun p hp=>?_,by rw[List.length_map];exact i.len⟩
 obtain⟨q,hq,rfl⟩:=List.mem_map.1 hp
 exact aq8 (i.ok q hq) hk
theorem aq9{b:Nat}{h:Hub}{e:Int×Str}(i:kx b h):kx b (acf h e):=by
 unfold acf
 split
 .exact i
 .split
  .exact i
  .rename_i hc
   have i1:kx b (pn h (e.2,1) e.1):=acB i (by omega)
   simp only
   split
   .split
    .exact acB (acB i1 (by omega)) (by omega)
    .exact acB i1 (by omega)
   .split
    .exact acB i1 (by omega)
    .exact i1
theorem ahk{b:Nat}:∀ (l:List (Int×Str)) {h:Hub},kx b h->kx b (po h l)
 | [],_,i=>i
 | e::l,_,i=>ahk l (aq9 i)
theorem amI{b:Nat}{h:Hub}{k:Str×Int}(i:kx b h):kx b (jM h k):=
 ⟨List.Nodup.sublist (ahh.map _) i.keys,fun p hp=>i.ok p (ahh.subset hp),Nat.le_trans ahh.length_le i.len⟩
theorem agr{b:Nat}{h:Hub}{k:Str×Int}{n:Int}(i:kx b h):kx b (af2 h k n).1:=by
 unfold af2
 split
 .exact i
 .rename_i d hd
  split
  .exact i
  .rename_i hc
   have hd0:ab3 b k d:=i.ok _ (uK hd)
   obtain⟨a1,a2,a3,a4,a5,a6⟩:=hd0
   refine anY i ?_ (.inl (by rw[hd];rfl))
   have hl:=List.length_filter_le (fun e:Int×Int×Str=> !decide (e.1<=n)) d.events
   refine⟨?_,a2,fun e he=>a3 e (List.mem_filter.1 he).1,?_,a5,a6⟩
   .show(d.events.filter _).length+d.marks.length<=32
    omega
   .show 0<=max d.acked n/\max d.acked n<=d.last
    omega
theorem aeN{n:Int}:qN n=true↔0<=n/\n<=4611686018427387903:=by unfold qN;simp
theorem apT{n:Int}(h:qN n=true):((n.toNat:Nat):Int)=n/\n.toNat<4611686018427387904:=by
 have:=aeN.1 h;omega
theorem ara(r:Rd):(qO r).1<4611686018427387904:=by
 unfold qO
 split
 .show 0<4611686018427387904;omega
 .exact(apu _).2
structure afB(x:Rep):Prop where
 data:x.data.length<=256
 res:∀ y∈x.results,y.1.length<=128
 names:∀ y∈x.names,y.length<=128
 evs:∀ y∈x.events,y.2.2.length<=128
theorem af4{n:Int}(h:qN n=true):(wb n.toNat).length<=9:=(uY 8 n.toNat (by have:=(apT h).2;omega)).2
theorem akh{n:Nat}(h:n<4611686018427387904):(wb n).length<=9:=(uY 8 n (by omega)).2
theorem aoI{d:Str}{m:Nat}(h:d.length<=m)(hm:m<4611686018427387904):(yU d).length<=9+m:=by
 unfold yU
 have:=akh (n:=d.length) (by omega)
 rw[List.length_append];omega
theorem uc{α:Type}{f:α->Str}{n:Nat}:∀ {l:List α},(∀y∈l,(f y).length<=n)->(l.flatMap f).length<=n*l.length
 | [],_=>by simp
 | y::l,h=>by
  have h1:=uc (l:=l) fun z hz=>h z (by simp[hz])
  have h2:=h y (by simp)
  rw[List.flatMap_cons,List.length_append,List.length_cons,Nat.mul_add]
  omega
theorem aso{x:Rep}(h:adl x)(ht:afB x):(aio x).length<=1048576:=by
 obtain⟨h1,h2,h3,h4,h5,c1,c2,c3,c4,c5,c6,c7,h6,h7⟩:=h
 have e1:=af4 c1
 have e2:=af4 c2
 have e3:=af4 c3
 have e4:=af4 c4
 have e5:=af4 c5
 have e6:=af4 c6
 have e7:=af4 c7
 have e8:(wb (x.bad+1).toNat).length<=9:=akh (by omega)
 have e9:=akh (n:=x.results.length) (by omega)
 have e10:=akh (n:=x.names.length) (by omega)
 have e11:=akh (n:=x.events.length) (by omega)
 have e12:=aoI ht.data (by decide)
 have f1:(aim x.results).length<=146*x.results.length:=uc fun y hy=>by
  rw[List.length_append]
  have:=af4 (h6 y hy)
  have:=aoI (ht.res y hy) (by decide)
  omega
 have f2:(x.names.flatMap yU).length<=137*x.names.length:=uc fun y hy=>by
  have:=aoI (ht.names y hy) (by decide)
  omega
 have f3:(ain x.events).length<=155*x.events.length:=uc fun y hy=>by
  rw[List.length_append,List.length_append]
  have:=af4 (h7 y hy).1
  have:=af4 (h7 y hy).2
  have:=aoI (ht.evs y hy) (by decide)
  omega
 unfold aio
 simp only[List.length_append]
 omega
theorem anZ{x:Rep}(ht:afB x):((aaq x).getD []).length<=1048576:=by
 unfold aaq
 split
 .rename_i h;exact aso h ht
 .simp
theorem arb{b:Nat}{home:Str}{owner:Int}{st:St}{o:MOp}(h:wD b st)(hb:b<=4398046511103):(xI owner st o).2.1.length<=128/\0<=(xI owner st o).2.2.1/\(xI owner st o).2.2.1<=4398046511104:=by
 unfold xI
 split
 .rcases ajf st o.path o.data (if o.eph=true then owner else 0) o.seq with⟨e,_,he⟩ | ⟨q,u,n,he,_,_,_,_,hq,_⟩
  .rw[he];simp
  .rw[he]
   refine⟨?_,by simp,by simp⟩
   simp only
   unfold qz at hq
   cases hp:parts q with
   | none=>rw[hp]at hq;cases hq
   | some ps=>
    obtain⟨e1,e2⟩:=wa.1 hp
    rw[e1];exact e2.len
 .split
  .exact⟨by simp,by simp,by simp⟩
  .split
   .rcases aid st o.path o.data o.ver with⟨e,_,he⟩ | ⟨n,he,hn,_⟩
    .rw[he];simp
    .rw[he]
     have:=h.ver _ n hn
     have e:i64.wrap (n.ver+1)=n.ver+1:=SL.wg (by omega) (by omega)
     simp only[e]
     exact⟨by simp,by omega,by omega⟩
   .exact⟨by simp,by simp,by simp⟩
theorem ank{home:Str}{owner qn qb:Int}:∀ {os:List MOp} {i b:Nat} {w w':uC},vJ home owner qn qb os i w= .inr w'->wD b w.st->b+os.length<=4398046511103->(∀y∈w.res,y.1.length<=128/\0<=y.2/\y.2<=4398046511104)->
  (∀y∈w'.res,y.1.length<=128/\0<=y.2/\y.2<=4398046511104)/\w'.res.length=w.res.length+os.length:=by
 intro os
 induction os with
 | nil=>intro i b w w' h _ _ hr;cases h;exact⟨hr,rfl⟩
 | cons o os ih=>
  intro i b w w' h hi hb hr
  simp only[List.length_cons]at hb⊢
  unfold vJ at h
  split at h
  .cases h
  .rename_i hc
   have h0:(doE home owner qn qb w o).1=0:=by simpa using hc
   have hre:(doE home owner qn qb w o).2.res=w.res++[((xI owner w.st o).2.1,(xI owner w.st o).2.2.1)]:=by
    unfold doE at h0⊢
    split at h0
    .rename_i hx;exact absurd h0 hx
    .rename_i hx
     rw[if_neg hx]
     split at h0
     .rename_i hy;exact absurd h0 hy
     .rename_i hy
      rw[if_neg hy]
      split at h0
      .cases h0
      .rename_i hz;rw[if_neg hz]
   obtain⟨k1,k2⟩:=ih h (agm hi (by omega)) (by omega) fun y hy=>by
    rw[hre]at hy
    rcases List.mem_append.1 hy with hy | hy
    .exact hr y hy
    .rw[List.mem_singleton.1 hy];exact arb (home:=home) hi (by omega)
   refine⟨k1,?_⟩
   rw[k2,hre];simp;omega
theorem asp{home:Str}{owner qn qb:Int}{w:uC}{o:MOp}:0<=(doE home owner qn qb w o).1/\(doE home owner qn qb w o).1<=100:=by
 have hw:0<=zG home o/\zG home o<=100:=by
  unfold zG
  split
  .omega
  .split
   .omega
   .split<;>omega
 have c1:∀ (st:St) p d o s,0<=(wu st p d o s).2.2/\(wu st p d o s).2.2<=100:=fun st p d o s=>by
  have h:(wu st p d o s).2.2∈[(20:Int),75,10,70,74,76,71,0]:=by
   unfold wu
   split
   .simp
   .split
    .simp
    .split
     .simp
     .split
      .simp
      .split
       .simp
       .split
        .simp
        .split
         .simp
         .split<;>simp
  simp only[List.mem_cons,List.not_mem_nil,or_false]at h
  omega
 have c2:∀ (st:St) p v,0<=(wL st p v).2/\(wL st p v).2<=100:=fun st p v=>by
  have h:(wL st p v).2∈[(20:Int),70,72,73,0]:=by
   unfold wL
   split
   .simp
   .split
    .simp
    .split
     .simp
     .split
      .simp
      .split<;>simp
  simp only[List.mem_cons,List.not_mem_nil,or_false]at h
  omega
 have c3:∀ (st:St) p d v,0<=(xf st p d v).2.2/\(xf st p d v).2.2<=100:=fun st p d v=>by
  have h:(xf st p d v).2.2∈[(20:Int),70,72,75,0]:=by
   unfold xf
   split
   .simp
   .split
    .simp
    .split
     .simp
     .split<;>simp
  simp only[List.mem_cons,List.not_mem_nil,or_false]at h
  omega
 have c4:∀ (st:St) p v,0<=aff st p v/\aff st p v<=100:=fun st p v=>by
  unfold aff
  split
  .omega
  .split<;>omega
 have hc:0<=(xI owner w.st o).2.2.2/\(xI owner w.st o).2.2.2<=100:=by
  unfold xI
  split
  .exact c1 _ _ _ _ _
  .split
   .exact c2 _ _ _
   .split
    .exact c3 _ _ _ _
    .exact c4 _ _ _
 unfold doE
 split
 .exact hw
 .split
  .exact hc
  .split
   .show(0:Int)<=81/\(81:Int)<=100;omega
   .show(0:Int)<=0/\(0:Int)<=100;omega
theorem aoJ{home:Str}{owner qn qb:Int}:∀ {os:List MOp} {i:Nat} {w:uC} {x:Nat×Int},vJ home owner qn qb os i w= .inl x->(0<=x.2/\x.2<=100)/\x.1<i+os.length:=by
 intro os
 induction os with
 | nil=>intro i w x h;cases h
 | cons o os ih=>
  intro i w x h
  unfold vJ at h
  split at h
  .cases h;exact⟨asp,by simp⟩
  .obtain⟨h1,h2⟩:=ih h
   exact⟨h1,by simp only[List.length_cons];omega⟩
theorem aki{b:Nat}{st:St}{home:Str}{owner qn qb:Int}{ops:List MOp}(h:wD b st)(hb:b<=4398046511000):
  ((∀y∈(wm st home owner qn qb ops).res,y.1.length<=128/\0<=y.2/\y.2<=4398046511104)/\(wm st home owner qn qb ops).res.length<=16)/\(0<=(wm st home owner qn qb ops).err/\(wm st home owner qn qb ops).err<=100)/\ -1<=(wm st home owner qn qb ops).bad/\(wm st home owner qn qb ops).bad<=16:=by
 unfold wm
 split
 .exact⟨⟨(fun y h=>by cases h),by simp⟩,by simp,by simp⟩
 .rename_i hl
  split
  .exact⟨⟨(fun y h=>by cases h),by simp⟩,by simp,by simp⟩
  .cases e:vJ home owner qn qb ops 0 ⟨srt st,[],[]⟩with
   | inl x=>
    obtain⟨h1,h2⟩:=aoJ e
    exact⟨⟨(fun y h=>by cases h),by simp[ab0]⟩,h1,by simp only[ab0];omega,by simp only[ab0];omega⟩
   | inr w=>
    obtain⟨h1,h2⟩:=ank e (adC h) (by omega) (fun y h=>by cases h)
    refine⟨⟨h1,?_⟩,by simp[ab0],by simp[ab0],by simp[ab0]⟩
    show w.res.length<=16
    rw[h2];simp;omega
theorem akU{b:Nat}{st:St}{p:Str}{n:Nd}(h:wD b st)(hn:st.lookup p=some n):n.data.length<=256:=h.inv.data p n hn
theorem anl{ks:List Str}{p:Str}:∀ y∈jy ks p,y.length<=128:=fun y hy=>by
 unfold jy at hy
 obtain⟨k,_,hk⟩:=List.mem_filterMap.1 hy
 split at hk
 .unfold base at hk
  split at hk
  .rename_i ps e
   have:=(aa3 ((wa.1 e).2.ok y (List.mem_of_getLast? hk))).2
   omega
  .cases hk
 .cases hk
theorem amJ{b:Nat}{s:Sto}{c:zI}(i:kO b s)(hb:b<=33554432):afB (doS s c).2:=by
 have z:afB Rep.zero:=⟨by simp[Rep.zero],(fun y h=>by cases h),(fun y h=>by cases h),(fun y h=>by cases h)⟩
 have fz:∀ e,afB (za e):=fun e=>⟨by simp[za,Rep.zero],(fun y h=>by cases h),(fun y h=>by cases h),(fun y h=>by cases h)⟩
 unfold doS
 split
 .exact z
 split
 .unfold ago
  have:=aki (home:=c.home) (owner:=c.session) (qn:=64) (qb:=8192) (ops:=c.ops) i.tree (by omega)
  exact⟨by simp[Rep.zero],fun y hy=>(this.1.1 y hy).1,(fun y h=>by cases h),(fun y h=>by cases h)⟩
 split
 .unfold adk
  split
  .exact fz _
  .split
   .exact fz _
   .simp only
    split
    .exact fz _
    .rename_i n hn
     exact⟨akU i.tree hn,(fun y h=>by cases h),(fun y h=>by cases h),(fun y h=>by cases h)⟩
 split
 .unfold aaO
  split
  .exact fz _
  .split
   .exact fz _
   .split
    .exact fz _
    .exact⟨by simp[Rep.zero],(fun y h=>by cases h),anl,(fun y h=>by cases h)⟩
 .exact z
theorem akV{b:Nat}{s:Sto}{c:zI}(i:kO b s)(hb:b<=33554432):kO (b+1) (doS s c).1:=by
 have i0:kO (b+1) s:=⟨i.tree.mono (by omega),i.tbl.mono (by omega),i.hub.mono (by omega),by have:=i.ep;omega,i.mem⟩
 unfold doS
 split
 .exact⟨i0.tree,aoH i.tbl,i0.hub,i0.ep,i.mem⟩
 split
 .unfold ago
  exact⟨(aka i.tree (by omega)).mono (by omega),i0.tbl,ahk _ i0.hub,i0.ep,i.mem⟩
 split
 .unfold adk
  split
  .exact i0
  .split
   .exact i0
   .refine⟨i0.tree,i0.tbl,?_,i0.ep,i.mem⟩
    simp only
    split
    .exact amH i.hub
    .exact i0.hub
 split
 .unfold aaO
  split
  .exact i0
  .split
   .exact i0
   .split
    .exact i0
    .refine⟨i0.tree,i0.tbl,?_,i0.ep,i.mem⟩
     simp only
     split
     .exact amH i.hub
     .exact i0.hub
 .exact i0
theorem akj{b:Nat}{s:Sto}{k:Str×Int}(i:kO b s)(hb:b<=33554433):kO b (agn s k):=
 ⟨aoG i.tree (by omega),i.tbl,ahk _ (amI i.hub),i.ep,i.mem⟩
theorem aoK{b:Nat}{s:Sto}{c:zI}(i:kO b s)(hb:b<=33554432):kO (b+1) (xS s c).1:=by
 have i0:kO (b+1) s:=⟨i.tree.mono (by omega),i.tbl.mono (by omega),i.hub.mono (by omega),by have:=i.ep;omega,i.mem⟩
 unfold xS
 split
 .unfold adj
  split
  .exact i0
  .refine⟨?_,apR i.tbl,i0.hub,i0.ep,i.mem⟩
   simp only
   split
   .exact(ajg i.tree (by omega)).mono (by omega)
   .exact i0.tree
 split
 .split
  .exact akj (b:=b+1) ⟨i0.tree,af3 i0.tbl,i0.hub,i0.ep,i.mem⟩ (by omega)
  .exact i0
 split
 .unfold acP
  split
  .exact i0
  .rename_i hr
   split
   .exact i0
   .refine⟨i0.tree,i0.tbl,i0.hub,by have:=i.ep;simp only;omega,?_⟩
    unfold aac at hr
    simp only[Bool.not_eq_false,Bool.and_eq_true,decide_eq_true_eq]at hr
    exact hr.2
 split
 .unfold acQ
  split
  .exact i0
  split
  .exact i0
  have i1:kO b ({s with hub:=(af2 s.hub c.key c.ack).1}:Sto):=⟨i.tree,i.tbl,agr i.hub,i.ep,i.mem⟩
  simp only
  split
  .exact akj (b:=b+1) ⟨i0.tree,ahj i0.tbl,agr i0.hub,i0.ep,i.mem⟩ (by omega)
  .have i2:=akV (c:=c) i1 hb
   exact⟨i2.tree,aq5 i2.tbl (anZ (amJ i1 hb)),i2.hub,i2.ep,i2.mem⟩
 .exact i0
end Zt
namespace SL
open Go
variable{P:Program}{B:World}{ro I I':AH}{tag tag':Nat->Nat}
theorem alR{β:Type}{em:Bool}{kt:TypeId}{s:Int}{f:Unit->Sem β}{K:β->AH->Prop}(hk:P.underlying kt=some (.int .i64))(h:awp P ro (f ()) K I):awp P ro (Sem.bind (Instr.checkKey em 10000 kt (.int .i64 s)) f) K I:=by
 rw[show(10000:Nat)=9999+1 from rfl]
 unfold Instr.checkKey
 simp only[qA]
 rw[bind_assoc',qB hk]
 exact h
theorem amK{β:Type}{kt:TypeId}{s:Int}{l:List MapEntry}{r:Option (Nat×Value)}{f:Option (Nat×Value)->Sem β}{K:β->AH->Prop}(hk:P.underlying kt=some (.int .i64))(hr:Instr.findNow (.int .i64) (.int .i64 s) l 0=some r)(h:awp P ro (f r) K I):
  awp P ro (Sem.bind (Instr.findKey kt (.int .i64 s) l) f) K I:=by
 unfold Instr.findKey
 simp only[qA]
 rw[bind_assoc',qB hk]
 rw[hr]
 exact h
end SL
namespace SL
open Go
variable{P:Program}
abbrev kS(k:Str):Value:= .string (S k)
abbrev kI(k:Int):Value:= .int .i64 k
abbrev kSI(k:Str×Int):Value:= .agg #[.string (S k.1),.int .i64 k.2]
theorem ajj{κ:Type}[DecidableEq κ]{enc:κ->Value}{d:TypeDesc}(hsame:∀ k k',Instr.sameNow d (enc k) (enc k')=some (decide (k=k')))(k:κ):∀ (l:List MapEntry) (m:List (κ×Value)) (i:Nat),l.map pW=m.map (adP enc)->Instr.findNow d (enc k) l i=some (aca k m i):=by
 intro l
 induction l with
 | nil=>intro m i h;cases m with
  | nil=>rfl
  | cons p m=>cases h
 | cons e l ih=>
  intro m i h
  cases m with
  | nil=>cases h
  | cons p m=>
   simp only[List.map_cons,List.cons.injEq]at h
   have hk:e.key=enc p.1:=congrArg Prod.fst h.1
   have hv:e.val=p.2:=congrArg Prod.snd h.1
   unfold Instr.findNow aca
   rw[hk,hsame,hv]
   by_cases c:k=p.1
   .rw[if_pos c,decide_eq_true c]
   .rw[if_neg c,decide_eq_false c]
    exact ih m (i+1) h.2
theorem ajD{kt:TypeId}(hk:P.underlying kt=some .string):ajt P kt kS where
 check:=fun h=>ac0 hk h
 find:=fun{_ _ _ k l m f K} he h=>by
  refine pX hk (ajj (enc:=kS) (fun k k'=>?_) k l m 0 he) h
  show some (S k == S k')=_
  rw[ajq];congr 1;rw[decide_eq_decide];exact ab6
 stays:=fun k=>by
  unfold Instr.keyThatStays
  rw[if_pos (by simp[Instr.sameBits,ajq])];rfl
theorem akW{kt:TypeId}(hk:P.underlying kt=some (.int .i64)):ajt P kt kI where
 check:=fun h=>alR hk h
 find:=fun{_ _ _ k l m f K} he h=>by
  refine amK hk (ajj (enc:=kI) (fun k k'=>?_) k l m 0 he) h
  show(if IntKind.i64=IntKind.i64 then some (k == k')else none)=_
  rw[if_pos rfl];congr 1
 stays:=fun k=>by
  unfold Instr.keyThatStays
  rw[if_pos (by simp[Instr.sameBits])];rfl
section
variable{ro:AH}
theorem wN{α β:Type}(s:Sem α)(f:α->Sem β){τ:AH}{a:α}(h:qg P ro s τ=some a):qg P ro (Sem.bind s f) τ=qg P ro (f a) τ:=by
 induction s with
 | pure x=>cases h;rfl
 | load m x k ih=>
  simp only[qg]at h
  simp only[Sem.bind,qg]
  split at h
  .exact ih _ h
  .cases h
 | program k ih=>exact ih _ h
 | mark m k ih=>exact ih h
 | _=>cases h
structure SI(P:Program)(kt:TypeId):Prop where
 st:∃ n1 n2:Field,P.underlying kt=some (.struct #[n1,n2])/\P.underlying n1.type=some .string/\n1.offset=0/\P.underlying n2.type=some (.int .i64)/\n2.offset=1/\n1.name≠ "_" /\n2.name≠ "_"
 held:P.stoodInHeld kt=false
theorem aiM{t:TypeId}{cs:Array Value}{off:Nat}{v:Value}{τ:AH}(ht:P.underlying t=some .string\/P.underlying t=some (.int .i64))(hv:cs[off]?=some v):qg P ro (part t cs off) τ=some v:=by
 have hs:cs.getD off undef=v:=by simp[Array.getD_eq_getD_getElem?,hv]
 unfold part
 show qg P ro (Sem.bind (isAgg t) _) τ=_
 rcases ht with ht | ht
 .rw[pU ht];simp[hv];rfl
 .rw[pU ht];simp[hv];rfl
theorem atb{t:TypeId}{n:Nat}{a b:ByteArray}{τ:AH}(ht:P.underlying t=some .string):qg P ro (Op.equalIn (n+1) t (.string a) (.string b)) τ=some (decide (a=b)):=by
 unfold Op.equalIn
 show qg P ro (Sem.bind (underlying t) _) _=_
 rw[qK _ _ ht]
 show some (a == b)=_
 rw[ajq]
theorem atc{t:TypeId}{n:Nat}{a b:Int}{τ:AH}(ht:P.underlying t=some (.int .i64)):qg P ro (Op.equalIn (n+1) t (.int .i64 a) (.int .i64 b)) τ=some (decide (a=b)):=by
 unfold Op.equalIn
 show qg P ro (Sem.bind (underlying t) _) _=_
 rw[qK _ _ ht]
 show some (a == b)=_
 congr 1
theorem auo{kt:TypeId}(hk:SI P kt){k k':Str×Int}{τ:AH}:qg P ro (Op.equalIn (9998+2) kt (kSI k) (kSI k')) τ=some (decide (k=k')):=by
 obtain⟨n1,n2,hu,h1,h2,h3,h4,h5,h6⟩:=hk.st
 unfold Op.equalIn
 show qg P ro (Sem.bind (underlying kt) _) _=_
 rw[qK _ _ hu]
 show qg P ro (if P.stoodInHeld kt=true then _ else _) τ=_
 rw[hk.held,if_neg (by simp)]
 show qg P ro (Sem.bind (forIn #[n1,n2] _ _) _) τ=_
 have p0:∀ {β:Type} (k:Str×Int) (f:Value->Sem β),qg P ro (part n1.type #[Value.string (S k.1),Value.int IntKind.i64 k.2] n1.offset >>= f) τ=qg P ro (f (.string (S k.1))) τ:=fun k f=>wN _ _ (aiM (.inl h1) (by rw[h2];rfl))
 have p1:∀ {β:Type} (k:Str×Int) (f:Value->Sem β),qg P ro (part n2.type #[Value.string (S k.1),Value.int IntKind.i64 k.2] n2.offset >>= f) τ=qg P ro (f (.int .i64 k.2)) τ:=fun k f=>wN _ _ (aiM (.inr h3) (by rw[h4];rfl))
 have q0:∀ {β:Type} (f:Bool->Sem β),qg P ro (Op.equalIn 9999 n1.type (.string (S k.1)) (.string (S k'.1)) >>= f) τ=qg P ro (f (decide (S k.1=S k'.1))) τ:=fun f=>wN _ _ (atb (n:=9998) h1)
 have q1:∀ {β:Type} (f:Bool->Sem β),qg P ro (Op.equalIn 9999 n2.type (.int .i64 k.2) (.int .i64 k'.2) >>= f) τ=qg P ro (f (decide (k.2=k'.2))) τ:=fun f=>wN _ _ (atc (n:=9998) h3)
 obtain⟨k1,k2⟩:=k
 obtain⟨m1,m2⟩:=k'
 rw[<-Array.forIn_toList]
 show qg P ro (Sem.bind (forIn [n1,n2] _ _) _) τ=_
 by_cases c1:k1=m1
 .by_cases c2:k2=m2
  .rw[decide_eq_true (by rw[c1,c2])]
   refine(wN _ _ (a:=((none,()):Option Bool×Unit)) ?_).trans rfl
   rw[List.forIn_cons]
   refine(wN _ _ (a:= .yield ((none,()):Option Bool×Unit)) ?_).trans ?_
   .rw[if_pos h5,p0,p0,q0,decide_eq_true (by rw[c1])];rfl
   .show qg P ro (forIn [n2] _ _) τ=_
    rw[List.forIn_cons]
    refine(wN _ _ (a:= .yield ((none,()):Option Bool×Unit)) ?_).trans ?_
    .rw[if_pos h6,p1,p1,q1,decide_eq_true c2];rfl
    .rfl
  .rw[decide_eq_false (by rintro h;cases h;exact c2 rfl)]
   refine(wN _ _ (a:=((some false,()):Option Bool×Unit)) ?_).trans rfl
   rw[List.forIn_cons]
   refine(wN _ _ (a:= .yield ((none,()):Option Bool×Unit)) ?_).trans ?_
   .rw[if_pos h5,p0,p0,q0,decide_eq_true (by rw[c1])];rfl
   .show qg P ro (forIn [n2] _ _) τ=_
    rw[List.forIn_cons]
    refine(wN _ _ (a:= .done ((some false,()):Option Bool×Unit)) ?_).trans ?_
    .rw[if_pos h6,p1,p1,q1,decide_eq_false c2];rfl
    .rfl
 .rw[decide_eq_false (by rintro h;cases h;exact c1 rfl)]
  refine(wN _ _ (a:=((some false,()):Option Bool×Unit)) ?_).trans rfl
  rw[List.forIn_cons]
  refine(wN _ _ (a:= .done ((some false,()):Option Bool×Unit)) ?_).trans ?_
  .rw[if_pos h5,p0,p0,q0,decide_eq_false (by rw[ab6];exact c1)];rfl
  .rfl
theorem asq{kt:TypeId}(hk:SI P kt){em:Bool}{k:Str×Int}{τ:AH}:qg P ro (Instr.checkKey em (9998+2) kt (kSI k)) τ=some ():=by
 obtain⟨n1,n2,hu,h1,h2,h3,h4,h5,h6⟩:=hk.st
 unfold Instr.checkKey
 show qg P ro (Sem.bind (underlying kt) _) _=_
 rw[qK _ _ hu]
 show qg P ro (Sem.bind (forIn #[n1,n2] _ _) _) τ=_
 have p0:∀ {β:Type} (f:Value->Sem β),qg P ro (part n1.type #[Value.string (S k.1),Value.int IntKind.i64 k.2] n1.offset >>= f) τ=qg P ro (f (.string (S k.1))) τ:=fun f=>wN _ _ (aiM (.inl h1) (by rw[h2];rfl))
 have p1:∀ {β:Type} (f:Value->Sem β),qg P ro (part n2.type #[Value.string (S k.1),Value.int IntKind.i64 k.2] n2.offset >>= f) τ=qg P ro (f (.int .i64 k.2)) τ:=fun f=>wN _ _ (aiM (.inr h3) (by rw[h4];rfl))
 have c0:∀ {β:Type} (f:Unit->Sem β),qg P ro (Instr.checkKey em 9999 n1.type (.string (S k.1)) >>= f) τ=qg P ro (f ()) τ:=fun f=>wN _ _ (by
  rw[show(9999:Nat)=9998+1 from rfl];unfold Instr.checkKey
  show qg P ro (Sem.bind (underlying n1.type) _) _=_
  rw[qK _ _ h1];rfl)
 have c1:∀ {β:Type} (f:Unit->Sem β),qg P ro (Instr.checkKey em 9999 n2.type (.int .i64 k.2) >>= f) τ=qg P ro (f ()) τ:=fun f=>wN _ _ (by
  rw[show(9999:Nat)=9998+1 from rfl];unfold Instr.checkKey
  show qg P ro (Sem.bind (underlying n2.type) _) _=_
  rw[qK _ _ h3];rfl)
 refine(wN _ _ (a:=()) ?_).trans rfl
 rw[<-Array.forIn_toList]
 show qg P ro (forIn [n1,n2] _ _) τ=_
 rw[List.forIn_cons]
 refine(wN _ _ (a:= .yield ()) ?_).trans ?_
 .rw[if_pos h5,p0,c0];rfl
 .show qg P ro (forIn [n2] _ _) τ=_
  rw[List.forIn_cons]
  refine(wN _ _ (a:= .yield ()) ?_).trans ?_
  .rw[if_pos h6,p1,c1];rfl
  .rfl
theorem atX{kt:TypeId}(hk:SI P kt)(k:Str×Int){τ:AH}:∀ (l:List MapEntry) (m:List ((Str×Int)×Value)) (i:Nat),l.map pW=m.map (adP kSI)->qg P ro (Instr.findAsking kt (kSI k) l i) τ=some (aca k m i):=by
 intro l
 induction l with
 | nil=>intro m i h;cases m with
  | nil=>rfl
  | cons p m=>cases h
 | cons e l ih=>
  intro m i h
  cases m with
  | nil=>cases h
  | cons p m=>
   simp only[List.map_cons,List.cons.injEq]at h
   have h1:e.key=kSI p.1:=congrArg Prod.fst h.1
   have hv:e.val=p.2:=congrArg Prod.snd h.1
   unfold Instr.findAsking aca
   rw[h1,hv]
   show qg P ro (Sem.bind (Op.equal kt (kSI k) (kSI p.1)) _) τ=_
   refine(wN _ _ (a:=decide (k=p.1)) (by unfold Op.equal Op.maxDepth;exact auo hk)).trans ?_
   by_cases c:k=p.1
   .rw[decide_eq_true c,if_pos rfl,if_pos c];rfl
   .rw[decide_eq_false c,if_neg (by simp),if_neg c]
    exact ih m (i+1) h.2
end
theorem adm{kt:TypeId}(hk:SI P kt):ajt P kt kSI where
 check:=fun{ro I _ em k f K} h=>by
  show awp P ro (_ >>= f) K I
  rw[vw]
  exact aeT _ (asq hk) h
 find:=fun{ro I _ k l m f K} he h=>by
  show awp P ro (_ >>= f) K I
  rw[vw]
  refine aeT _ (a:=aca k m 0) ?_ h
  obtain⟨n1,n2,hu,_⟩:=hk.st
  unfold Instr.findKey
  show qg P ro (Sem.bind (underlying kt) _) _=_
  rw[qK _ _ hu]
  cases l with
  | nil=>cases m with
   | nil=>rfl
   | cons p m=>cases he
  | cons e l=>
   have hn:Instr.findNow (.struct #[n1,n2]) (kSI k) (e::l) 0=none:=rfl
   rw[hn]
   exact atX hk k _ m 0 he
 stays:=fun k=>by
  unfold Instr.keyThatStays
  rw[if_pos (by simp[Instr.sameBits,ajq])];rfl
end SL
namespace Zt
open Go SL G Pa Wi
variable{B:World}{ro I I':AH}{tag tag':Nat->Nat}
def pr(b c:Nat):Nat:=(b+c)*(b+c)+b
theorem apU{b c b' c':Nat}(h:pr b c=pr b' c'):b=b'/\c=c':=by
 unfold pr at h
 have key:∀ s s' x x':Nat,x<=s->x'<=s'->s*s+x=s'*s'+x'->¬ s<s':=fun s s' x x' h1 h2 h3 h4=>by
  have:(s+1)*(s+1)<=s'*s':=Nat.mul_le_mul h4 h4
  have e:(s+1)*(s+1)=s*s+2*s+1:=by rw[Nat.add_mul,Nat.mul_add];omega
  omega
 have h1:=key _ _ _ _ (by omega:b<=b+c) (by omega:b'<=b'+c') h
 have h2:=key _ _ _ _ (by omega:b'<=b'+c') (by omega:b<=b+c) h.symm
 have e:b+c=b'+c':=by omega
 rw[e]at h
 omega
def aea(tag:Nat->Nat)(I:AH)(b:Nat)(home:Str)(c:Nat)(n:Int)(s:yw):Prop:=
 ∃d:Sl,Row tag I (58+64*(pr b c+2)) 83 ⟨some ⟨c,0,none⟩,7,7⟩ [Pa.vS home,vI n,vI s.nonce,vI s.lease,vI s.beats,vI s.req,Sl.v d]/\Row tag I 6 5 d (s.reply.map vU)
def yM(tag:Nat->Nat)(I:AH)(b:Nat)(home:Str)(h:xz):Prop:=
 ∃m cs,Row tag I (56+64*(b+2)) 254 ⟨some ⟨b,0,none⟩,2,2⟩ [vI h.last,.map (some m)]/\yh kI (aea tag I b home) tag I (57+64*(b+2)) m cs h.live
structure wX(tag:Nat->Nat)(I:AH)(T M:Nat)(bs:List Nat)(t:Tbl):Prop where
 cell:Row tag I 55 242 ⟨some ⟨T,0,none⟩,1,1⟩ [.map (some M)]
 map:yh kS (yM tag I) tag I 119 M bs t
def ahl(tag:Nat->Nat)(I:AH)(T:Nat)(t:Tbl):Prop:= ∃M bs,wX tag I T M bs t
def evV(e:Int×Int×Str):List Value:=[vI e.1,vI e.2.1,Pa.vS e.2.2]
def jQ(tag:Nat->Nat)(I:AH)(b:Nat)(k:Str×Int)(d:jP):Prop:=
 ∃m s,Row tag I (59+64*(b+2)) 310 ⟨some ⟨b,0,none⟩,4,4⟩ [Sl.v s,vI d.acked,vI d.last,.map (some m)]/\qp tag I (61+64*(b+2)) 132 3 s (d.events.map evV)/\zX kSI tag I (60+64*(b+2)) m (d.marks.map fun k=>(k,vI 1))
structure wY(tag:Nat->Nat)(I:AH)(T M:Nat)(bs:List Nat)(h:Hub):Prop where
 cell:Row tag I 62 245 ⟨some ⟨T,0,none⟩,1,1⟩ [.map (some M)]
 map:yh kSI (jQ tag I) tag I 126 M bs h
def aiN(tag:Nat->Nat)(I:AH)(T:Nat)(h:Hub):Prop:= ∃M bs,wY tag I T M bs h
section
variable{R C:List Nat}
theorem aea.keep{b c:Nat}{home:Str}{n:Int}{s:yw}(h:aea tag I b home c n s)(k:qe R ro tag I tag' I')(h1:58+64*(pr b c+2)∉R:=by simp)(h6:6∉R:=by simp):aea tag' I' b home c n s:=by
 obtain⟨d,a,e⟩:=h
 exact⟨d,a.keep k h1,e.keep k h6⟩
theorem yM.keep{b:Nat}{home:Str}{h:xz}(i:yM tag I b home h)(k:qe R ro tag I tag' I')(h1:∀ x∈R,x%64=56->x≠56+64*(b+2):=by simp)(h2:∀ x∈R,x%64=57->x≠57+64*(b+2):=by simp)(h3:∀ c,58+64*(pr b c+2)∉R:=by simp)(h6:6∉R:=by simp):yM tag' I' b home h:=by
 obtain⟨m,cs,a,e⟩:=i
 exact⟨m,cs,a.keep k fun hm=>h1 _ hm (by omega) rfl,e.mono (e.map.keep k fun hm=>h2 _ hm (by omega) rfl) fun i c n s _ _ hs=>hs.keep k (h3 c) h6⟩
theorem yM.keepS{b:Nat}{home:Str}{h:xz}(i:yM tag I b home h)(k:StepS C ro tag I tag' I')(hC:56∉C/\57∉C/\58∉C/\6∉C:=by decide):yM tag' I' b home h:=by
 obtain⟨R,hR,k⟩:=k
 refine i.keep k (fun x hx e=>?_) (fun x hx e=>?_) (fun c hx=>?_) fun hx=>?_
 .have:=hR x hx;rw[e]at this;exact absurd this hC.1
 .have:=hR x hx;rw[e]at this;exact absurd this hC.2.1
 .have:=hR _ hx;rw[show(58+64*(pr b c+2))%64=58 by omega]at this;exact hC.2.2.1 this
 .exact hC.2.2.2 (hR _ hx)
theorem wX.keepS{T M:Nat}{bs:List Nat}{t:Tbl}(i:wX tag I T M bs t)(k:StepS C ro tag I tag' I')(hC:55∉C/\56∉C/\57∉C/\58∉C/\6∉C:=by decide):wX tag' I' T M bs t:=
 ⟨i.cell.keepS k hC.1,i.map.mono (i.map.map.keepS k hC.1) fun _ b k' h _ _ hh=>hh.keepS k hC.2⟩
theorem ahl.keepS{T:Nat}{t:Tbl}(i:ahl tag I T t)(k:StepS C ro tag I tag' I')(hC:55∉C/\56∉C/\57∉C/\58∉C/\6∉C:=by decide):ahl tag' I' T t:=by
 obtain⟨M,bs,i⟩:=i
 exact⟨M,bs,i.keepS k hC⟩
theorem jQ.keep{b:Nat}{k:Str×Int}{d:jP}(i:jQ tag I b k d)(st:qe R ro tag I tag' I')(h1:59+64*(b+2)∉R:=by simp)(h2:60+64*(b+2)∉R:=by simp)(h3:61+64*(b+2)∉R:=by simp):jQ tag' I' b k d:=by
 obtain⟨m,s,a,e,f⟩:=i
 exact⟨m,s,a.keep st h1,e.keep st h3,f.keep st h2⟩
theorem jQ.keepS{b:Nat}{k:Str×Int}{d:jP}(i:jQ tag I b k d)(st:StepS C ro tag I tag' I')(hC:59∉C/\60∉C/\61∉C:=by decide):jQ tag' I' b k d:=by
 obtain⟨R,hR,st⟩:=st
 refine i.keep st (fun hx=>?_) (fun hx=>?_) fun hx=>?_
 .have:=hR _ hx;rw[show(59+64*(b+2))%64=59 by omega]at this;exact hC.1 this
 .have:=hR _ hx;rw[show(60+64*(b+2))%64=60 by omega]at this;exact hC.2.1 this
 .have:=hR _ hx;rw[show(61+64*(b+2))%64=61 by omega]at this;exact hC.2.2 this
theorem wY.keepS{T M:Nat}{bs:List Nat}{h:Hub}(i:wY tag I T M bs h)(st:StepS C ro tag I tag' I')(hC:62∉C/\59∉C/\60∉C/\61∉C:=by decide):wY tag' I' T M bs h:=
 ⟨i.cell.keepS st hC.1,i.map.mono (i.map.map.keepS st hC.1) fun _ b k' d _ _ hh=>hh.keepS st hC.2⟩
theorem aiN.keepS{T:Nat}{h:Hub}(i:aiN tag I T h)(st:StepS C ro tag I tag' I')(hC:62∉C/\59∉C/\60∉C/\61∉C:=by decide):aiN tag' I' T h:=by
 obtain⟨M,bs,i⟩:=i
 exact⟨M,bs,i.keepS st hC⟩
end
def adn(tag:Nat->Nat)(I:AH)(W:Nat)(s:Sto):Prop:= ∃(T Tt Th:Nat) (ms:Sl),
 Row tag I 54 153 ⟨some ⟨W,0,none⟩,5,5⟩ [vI s.epoch,Sl.v ms,ptr T,ptr Tt,ptr Th]/\Row tag I 118 3 ms (s.members.map vI)/\qZ tag I 10 T s.tree/\ahl tag I Tt s.tbl/\aiN tag I Th s.hub
end Zt
namespace Zt
open Go SL G Pa Wi
variable{B:World}{ro I I':AH}{tag tag':Nat->Nat}
abbrev rD(b:Nat):Nat:=59+64*(b+2)
abbrev rM(b:Nat):Nat:=60+64*(b+2)
abbrev rE(b:Nat):Nat:=61+64*(b+2)
structure afh(b:Nat)(R:List Nat):Prop where
 r62:62∉R
 r126:126∉R
 r59:∀ x∈R,x%64=59->x=rD b
 r60:∀ x∈R,x%64=60->x=rM b
 r61:∀ x∈R,x%64=61->x=rE b
theorem jQ.other{R:List Nat}{b b':Nat}{k:Str×Int}{d:jP}(i:jQ tag I b' k d)(st:qe R ro tag I tag' I')(hR:afh b R)(hne:b'≠b):jQ tag' I' b' k d:=by
 refine i.keep st (fun hx=>?_) (fun hx=>?_) fun hx=>?_
 .have:=hR.r59 _ hx (by omega);unfold rD at this;omega
 .have:=hR.r60 _ hx (by omega);unfold rM at this;omega
 .have:=hR.r61 _ hx (by omega);unfold rE at this;omega
section
variable{T M:Nat}{bs:List Nat}{h:Hub}
theorem wY.old{R:List Nat}{i b:Nat}{k:Str×Int}{d d':jP}(hi:wY tag I T M bs h)(st:qe R ro tag I tag' I')(hR:afh b R)(hb:bs[i]?=some b)(hp:h[i]?=some (k,d))(hn:jQ tag' I' b k d'):wY tag' I' T M bs (ze h k d'):=
 ⟨hi.cell.keep st hR.r62,hi.map.write hb hp (hi.map.map.keep st hR.r126) hn fun b' k' x hb' _ hA=>hA.other st hR hb'⟩
theorem wY.new{R:List Nat}{b:Nat}{k:Str×Int}{d:jP}{tag2:Nat->Nat}{I2:AH}(hi:wY tag I T M bs h)(hk:qT h k=none)(st:qe R ro tag I tag' I')(hR:afh b R)(hnb:b∉bs)(hn:jQ tag' I' b k d)(st2:qe [126] ro tag' I' tag2 I2)(hm:zX kSI tag2 I2 126 M (ze (kvP h bs) k (aeo b))):wY tag2 I2 T M (bs++[b]) (ze h k d):=
 ⟨(hi.cell.keep st hR.r62).keep st2,hi.map.add hk hm hnb (hn.keepS (st2.s (C:=[62]) (by simp))) fun i b' k' x hb' _ hA=>(hA.other st hR fun e=>hnb (by rw[<-e];exact List.mem_of_getElem? hb')).keepS (st2.s (C:=[62]) (by simp))⟩
theorem wY.gone{k:Str×Int}(hi:wY tag I T M bs h)(st:qe [126] ro tag I tag' I')(hm:zX kSI tag' I' 126 M (jM (kvP h bs) k)):∃ bs',wY tag' I' T M bs' (jM h k):=by
 have kp:∀ b' k' x,jQ tag I b' k' x->jQ tag' I' b' k' x:=fun b' k' x hx=>hx.keepS (st.s (C:=[62]) (by simp))
 rcases hi.map.look k with⟨g1,g2⟩ | ⟨i,b,d,hb,hp,g3,g4,hA⟩
 .rw[alh g1]
  rw[alh g2]at hm
  exact⟨bs,hi.cell.keep st,hi.map.mono hm fun i b k' a _ _=>kp b k' a⟩
 .exact⟨bs.eraseIdx i,hi.cell.keep st,hi.map.del hb hp hm kp⟩
end
theorem jQ.own{b:Nat}{k:Str×Int}{d:jP}(h:jQ tag I b k d):∃ o,I b=some o:=by
 obtain⟨m,s,a,_⟩:=h
 exact a.tagOf.2
abbrev mk1(l:List xR):List (xR×Value):=l.map fun k=>(k,vI 1)
theorem amL(l:List xR)(m:xR):qT (mk1 l) m=if m∈l then some (vI 1)else none:=by
 induction l with
 | nil=>rfl
 | cons x l ih=>
  show(if m=x then some (vI 1)else qT (mk1 l) m)=_
  by_cases c:m=x
  .rw[if_pos c,if_pos (by simp[c])]
  .rw[if_neg c,ih]
   by_cases d:m∈l
   .rw[if_pos d,if_pos (by simp[d])]
   .rw[if_neg d,if_neg (by simp[c,d])]
theorem asr(l:List xR)(m:xR):jM (mk1 l) m=mk1 (l.erase m):=by
 induction l with
 | nil=>rfl
 | cons x l ih=>
  show(if m=x then mk1 l else(x,vI 1)::jM (mk1 l) m)=_
  by_cases c:m=x
  .rw[if_pos c,c,List.erase_cons_head]
  .rw[if_neg c,ih,List.erase_cons_tail (by simpa using fun e=>c e.symm)];rfl
theorem ass(l:List xR)(m:xR):ze (mk1 l) m (vI 1)=mk1 (if m∈l then l else l++[m]):=by
 induction l with
 | nil=>rfl
 | cons x l ih=>
  show(if m=x then(m,vI 1)::mk1 l else(x,vI 1)::ze (mk1 l) m (vI 1))=_
  by_cases c:m=x
  .rw[if_pos c,if_pos (by simp[c]),c];rfl
  .rw[if_neg c,ih]
   by_cases d:m∈l
   .rw[if_pos d,if_pos (by simp[d])];rfl
   .rw[if_neg d,if_neg (by simp[c,d])];rfl
def xT(h:Hub)(m:xR)(kind:Int)(ks:List (Str×Int)):Hub:=h.map fun p=>if p.1∈ks then(p.1,aeM m kind p.2)else p
theorem aoL(h:Hub)(m:xR)(kind:Int):xT h m kind []=h:=by unfold xT;simp
theorem aoM{h:Hub}{m:xR}{kind:Int}{ks:List (Str×Int)}(hk:∀ p∈h,p.1∈ks):xT h m kind ks=pn h m kind:=by
 unfold xT pn
 refine List.map_congr_left fun p hp=>?_
 rw[if_pos (hk p hp)]
theorem ahm{h:Hub}{m:xR}{kind:Int}{ks:List (Str×Int)}{i:Nat}{k:Str×Int}{d:jP}(hp:h[i]?=some (k,d))(hk:k∉ks):(xT h m kind ks)[i]?=some (k,d):=by
 unfold xT
 rw[List.getElem?_map,hp]
 simp[hk]
theorem aoN{h:Hub}{m:xR}{kind:Int}{ks:List (Str×Int)}{i:Nat}{k:Str×Int}{d:jP}(hn:(h.map (·.1)).Nodup)(hp:h[i]?=some (k,d))(hk:k∉ks):ze (xT h m kind ks) k (aeM m kind d)=xT h m kind (ks++[k]):=by
 have hn':((xT h m kind ks).map (·.1)).Nodup:=by
  have:(xT h m kind ks).map (·.1)=h.map (·.1):=by
   unfold xT
   rw[List.map_map]
   refine List.map_congr_left fun p _=>?_
   simp only[Function.comp]
   split<;>rfl
  rw[this];exact hn
 rw[ae9 _ hn' (ahm hp hk)]
 apply List.ext_getElem?
 intro j
 rw[List.getElem?_set]
 by_cases c:i=j
 .subst c
  have hil:i<(xT h m kind ks).length:=(List.getElem?_eq_some_iff.1 (ahm hp hk)).1
  rw[if_pos rfl,if_pos hil]
  unfold xT
  rw[List.getElem?_map,hp]
  simp
 .rw[if_neg c]
  unfold xT
  rw[List.getElem?_map,List.getElem?_map]
  cases e:h[j]? with
  | none=>rfl
  | some q=>
   have hq:q.1≠k:=fun e'=>c (acs hn (i:=i) (j:=j) (x:=k) (by rw[List.getElem?_map,hp];rfl) (by rw[List.getElem?_map,e];simp[e']))
   simp[hq]
theorem anm{h:Hub}{m:xR}{kind:Int}{ks:List (Str×Int)}{i:Nat}{k:Str×Int}{d:jP}(hn:(h.map (·.1)).Nodup)(hp:h[i]?=some (k,d))(hk:k∉ks)(hm:m∉d.marks):xT h m kind (ks++[k])=xT h m kind ks:=by
 unfold xT
 refine List.map_congr_left fun p hpm=>?_
 by_cases c:p.1=k
 .have:p=(k,d):=by
   obtain⟨j,hj,e⟩:=List.getElem_of_mem hpm
   have hj':h[j]?=some p:=by rw[List.getElem?_eq_getElem hj,e]
   have:i=j:=acs hn (i:=i) (j:=j) (x:=k) (by rw[List.getElem?_map,hp];rfl) (by rw[List.getElem?_map,hj'];simp[c])
   subst this
   rw[hp]at hj';cases hj';rfl
  subst this
  simp only[List.mem_append,List.mem_singleton,or_true,if_true]
  rw[if_neg hk]
  unfold aeM
  rw[if_neg hm]
 .simp[c]
end Zt
namespace SL
open Go
variable{P:Program}{B:World}{ro I I':AH}{tag tag':Nat->Nat}
theorem qp.stF{r:Nat}{e:TypeId}{w:Nat}{s:Sl}{b j:Nat}{K:AH->Prop}(ha:s.a=some ⟨b,0,none⟩):∀ (vs:List Value) (i:Nat) (l:List (List Value)) (y:List Value) (I:AH),qp tag I r e w s l->l[j]?=some y->Sep ro I->i+vs.length<=w->(∀v∈vs,qh v=true)->
  (∀I',qe [r] ro tag I tag I'->qp tag I' r e w s (l.set j (y.take i++vs++y.drop (i+vs.length)))->K I')->stN ⟨b,j*w,none⟩ K vs i I:=by
 intro vs
 induction vs with
 | nil=>
  intro i l y I h hj hs _ _ hK
  refine hK I (qe.refl hs) ?_
  have:l.set j (y.take i++[]++y.drop (i+([]:List Value).length))=l:=by
   have hjl:j<l.length:=(List.getElem?_eq_some_iff.1 hj).1
   rw[List.append_nil,List.length_nil,Nat.add_zero,List.take_append_drop]
   have:=(List.getElem?_eq_some_iff.1 hj).2
   rw[<-this];exact List.set_getElem_self hjl
  rw[this];exact h
 | cons v vs ih=>
  intro i l y I h hj hs hl hv hK
  simp only[List.length_cons]at hl
  have hyl:y.length=w:=h.wide y (List.mem_of_getElem? hj)
  have hjl:j<l.length:=(List.getElem?_eq_some_iff.1 hj).1
  have h1:=qp.st (v:=v) (i:=i) (K:=stN ⟨b,j*w,none⟩ K vs (i+1)) h hs ha hj (by omega) (hv v (by simp)) fun I1 st1 h1=>?_
  .unfold stN at h1
   have e:(⟨b,j*w+i,none⟩:Addr).add 0=(⟨b,j*w,none⟩:Addr).add i:=by simp[Addr.add]
   rw[e]at h1
   unfold stN
   exact h1
  .refine ih (i+1) (l.set j (y.set i v)) (y.set i v) I1 h1 (by rw[List.getElem?_set_self hjl]) st1.sep (by omega) (fun u hu=>hv u (by simp[hu])) fun I2 st2 h2=>?_
   refine hK I2 (st1.trans st2) ?_
   have e1:(y.set i v).take (i+1)=y.take i++[v]:=by
    rw[List.take_add_one,List.take_set_of_le (Nat.le_refl _),List.getElem?_set_self (by omega)];rfl
   have e2:(y.set i v).drop (i+1+vs.length)=y.drop (i+(v::vs).length):=by
    rw[List.drop_set_of_lt (by omega)];congr 1;simp;omega
   rw[e1,e2,List.set_set]at h2
   simpa using h2
theorem qp.stE{r:Nat}{e:TypeId}{w:Nat}{s:Sl}{l:List (List Value)}{b j:Nat}{x y:List Value}{K:AH->Prop}(h:qp tag I r e w s l)(hs:Sep ro I)(ha:s.a=some ⟨b,0,none⟩)(hj:l[j]?=some y)(hx:x.length=w)(hv:∀ v∈x,qh v=true)
  (hK:∀ I',qe [r] ro tag I tag I'->qp tag I' r e w s (l.set j x)->K I'):stN ((⟨b,0,none⟩:Addr).add (j*w)) K x 0 I:=by
 have hyl:y.length=w:=h.wide y (List.mem_of_getElem? hj)
 have:=qp.stF (K:=K) ha x 0 l y I h hj hs (by omega) hv fun I' st h'=>hK I' st (by
  rw[List.take_zero,Nat.zero_add,List.drop_of_length_le (by omega)]at h'
  simpa using h')
 rw[vt,Nat.zero_add];exact this
theorem qp.take{r:Nat}{e:TypeId}{w m:Nat}{s:Sl}{l:List (List Value)}(h:qp tag I r e w s l)(hm:m<=l.length):qp tag I r e w ⟨s.a,m,s.cap⟩ (l.take m):=by
 rcases h with⟨rfl,rfl⟩ | ⟨b,cs,ha,ht,hb,hln,hc,hle,hw,hg⟩
 .simp at hm;subst hm;exact .inl ⟨rfl,rfl⟩
 .refine .inr ⟨b,cs,ha,ht,hb,by simp;omega,hc,by simp only;omega,fun x hx=>hw x (List.mem_of_mem_take hx),fun i v hv=>?_⟩
  refine hg i v ?_
  have e1:l.flatten=(l.take m).flatten++(l.drop m).flatten:=by rw[<-List.flatten_append,List.take_append_drop]
  rw[e1]
  have hi:i<(l.take m).flatten.length:=(List.getElem?_eq_some_iff.1 hv).1
  rw[List.getElem?_append_left hi];exact hv
theorem alS{zs:Array Value}{n:Nat}:(Builtin.zeroCells zs n).size=n*zs.size/\∀ v∈(Builtin.zeroCells zs n).toList,v∈zs.toList:=by
 constructor
 .simp[Builtin.zeroCells]
 .intro v hv
  simp only[Builtin.zeroCells,Array.mem_toList_iff,Array.mem_map]at hv
  obtain⟨i,hi,rfl⟩:=hv
  have hi':i<n*zs.size:=by simpa using hi
  have h0:0<zs.size:=by
   rcases Nat.eq_zero_or_pos zs.size with h | h
   .rw[h]at hi';omega
   .exact h
  rw[getElem!_pos zs _ (Nat.mod_lt _ h0)]
  simp
theorem akX{r e t ty:TypeId}{w:Nat}{s:Sl}{l:List (List Value)}{m bytes:Nat}{zv:Value}{Q:Value->AH->Prop}(h:qp tag I r e w s l)(hs:Sep ro I)(ht:P.underlying t=some (.slice e))(hz:qq P e zv w bytes)(hzc:zv.cells.size=w)(hv:∀ v∈zv.cells.toList,qh v=true)(hw0:0<w)
  (hm:m<=l.length) (hQ:∀ I',qe [r] ro tag I tag I'->qp tag I' r e w ⟨s.a,m,s.cap⟩ (l.take m)->Q (.tuple #[]) I'):
  awp P ro (Builtin.clear_ #[t] ty #[Sl.v (⟨wq s.a m s.cap w,s.len - m,s.cap - m⟩:Sl)]) Q I:=by
 have g0:(#[t]:Array TypeId)[0]?=some t:=rfl
 have g1:(#[Value.slice (wq s.a m s.cap w) (s.len - m) (s.cap - m)]:Array Value)[0]?=some (Value.slice (wq s.a m s.cap w) (s.len - m) (s.cap - m)):=rfl
 have hl:=h.len
 unfold Builtin.clear_
 simp only[Sl.v,qA,qS,g0,g1]
 rw[qB ht]
 rcases Nat.eq_zero_or_pos (s.len - m)with h0 | h0
 .have hd:=hQ I (qe.refl hs) (h.take hm)
  rw[h0]
  cases hc:wq s.a m s.cap w with
  | none=>exact hd
  | some a=>exact hd
 .have htk:=h.take hm
  rcases h with⟨rfl,rfl⟩ | ⟨b,cs,ha,htg,hbk,hln,hcp,hle,hw,hg⟩
  .simp at h0
  .have hcut:wq s.a m s.cap w=some ⟨b,m*w,none⟩:=by
    unfold wq
    rw[if_neg (by omega),ha]
    simp[vt]
   rw[hcut]
   obtain⟨k,hk⟩:∃ k,s.len - m=k+1:=⟨s.len - m - 1,by omega⟩
   rw[hk]
   simp only
   rw[aaV hz]
   refine(vw _ _).2 ?_
   obtain⟨z1,z2⟩:=alS (zs:=zv.cells) (n:=k+1)
   have hbound:m*w+(k+1)*w<=cs.size:=by
    rw[hcp,<-Nat.add_mul]
    exact Nat.mul_le_mul_right _ (by omega)
   refine jv (Builtin.zeroCells zv.cells (k+1)).toList 0 I (aeR (Builtin.zeroCells zv.cells (k+1)).toList cs 0 I hbk (by rw[Array.length_toList,z1,hzc];omega) (fun v hvm=>?_) fun cs' c1 c2 c3=>?_)
   .exact hv v (z2 v hvm)
   refine hQ _ (ke hs htg hbk) ?_
   refine .inr ⟨b,cs',ha,htg,qH _ _ _,by simp;omega,by rw[c1];exact hcp,by simp;omega,fun x hx=>hw x (List.mem_of_mem_take hx),fun i v hi=>?_⟩
   have hil:i<m*w:=by
    have:=(List.getElem?_eq_some_iff.1 hi).1
    rw[uc (w:=w) fun x hx=>hw x (List.mem_of_mem_take hx),List.length_take,Nat.min_eq_left hm]at this
    exact this
   rw[c2 i (by omega)]
   rcases htk with⟨_,e2⟩ | ⟨b',cs2,ha2,_,hb2,_,_,_,_,hg2⟩
   .rw[e2]at hi;cases hi
   .simp only at ha2
    rw[ha]at ha2;cases ha2
    rw[hbk]at hb2;cases hb2
    exact hg2 i v hi
end SL
namespace Zt
open Go SL G Pa Wi
variable{B:World}{ro I I':AH}{tag tag':Nat->Nat}
abbrev rH(b:Nat):Nat:=56+64*(b+2)
abbrev rL(b:Nat):Nat:=57+64*(b+2)
abbrev rS(b c:Nat):Nat:=58+64*(pr b c+2)
structure ags(b:Nat)(R:List Nat):Prop where
 r6:6∉R
 r55:55∉R
 r119:119∉R
 r56:∀ x∈R,x%64=56->x=rH b
 r57:∀ x∈R,x%64=57->x=rL b
 r58:∀ x∈R,x%64=58->∃ c,x=rS b c
theorem yM.other{R:List Nat}{b b':Nat}{home:Str}{h:xz}(i:yM tag I b' home h)(k:qe R ro tag I tag' I')(hR:ags b R)(hne:b'≠b):yM tag' I' b' home h:=by
 refine i.keep k (fun x hx e e'=>?_) (fun x hx e e'=>?_) (fun c hx=>?_) hR.r6
 .have:=hR.r56 x hx e;unfold rH at this;omega
 .have:=hR.r57 x hx e;unfold rL at this;omega
 .obtain⟨c',e⟩:=hR.r58 _ hx (by omega)
  unfold rS at e
  exact hne (apU (b:=b') (c:=c) (b':=b) (c':=c') (by omega)).1
section
variable{T M:Nat}{bs:List Nat}{t:Tbl}
theorem wX.old{R:List Nat}{i b:Nat}{home:Str}{x x':xz}(h:wX tag I T M bs t)(k:qe R ro tag I tag' I')(hR:ags b R)(hb:bs[i]?=some b)(hp:t[i]?=some (home,x))(hn:yM tag' I' b home x'):wX tag' I' T M bs (ze t home x'):=
 ⟨h.cell.keep k hR.r55,h.map.write hb hp (h.map.map.keep k hR.r119) hn fun b' k' x hb' _ hA=>hA.other k hR hb'⟩
structure aad(tag:Nat->Nat)(I:AH)(bs:List Nat)(t:Tbl)(home:Str)(n:Int)(i b:Nat)(h:xz)(m:Nat)(cs:List Nat)(j c:Nat)(s:yw):Prop where
 hb:bs[i]?=some b
 hp:t[i]?=some (home,h)
 row:Row tag I (rH b) 254 ⟨some ⟨b,0,none⟩,2,2⟩ [vI h.last,.map (some m)]
 map:yh kI (aea tag I b home) tag I (rL b) m cs h.live
 hc:cs[j]?=some c
 hq:h.live[j]?=some (n,s)
 rng:1<=n/\n<=h.last
theorem aad.sess{home:Str}{n:Int}{i b m j c:Nat}{h:xz}{cs:List Nat}{s:yw}(f:aad tag I bs t home n i b h m cs j c s):aea tag I b home c n s:=f.map.at' j c n s f.hc f.hq
theorem aad.look{home:Str}{n:Int}{i b m j c:Nat}{h:xz}{cs:List Nat}{s:yw}(f:aad tag I bs t home n i b h m cs j c s)(hi:wX tag I T M bs t):qT t home=some h/\qT h.live n=some s/\yx t (home,n)=(0,some s):=by
 have h1:qT t home=some h:=ajv hi.map.keys (List.mem_of_getElem? f.hp)
 have h2:qT h.live n=some s:=ajv f.map.keys (List.mem_of_getElem? f.hq)
 refine⟨h1,h2,?_⟩
 unfold yx
 rw[h1]
 simp only
 have:=f.rng
 rw[if_neg (by omega),h2]
theorem wX.setS{home:Str}{n:Int}{i b m j c:Nat}{h:xz}{cs:List Nat}{s s':yw}(hi:wX tag I T M bs t)(f:aad tag I bs t home n i b h m cs j c s)(k:qe [rS b c] ro tag I tag' I')(hn:aea tag' I' b home c n s'):wX tag' I' T M bs (ahe t (home,n) s'):=by
 have hR:ags b [rS b c]:=by
  refine⟨by simp[rH,rL,rS]<;>omega,by simp[rH,rL,rS]<;>omega,by simp[rH,rL,rS]<;>omega,fun x hx e=>?_,fun x hx e=>?_,fun x hx e=>⟨c,List.mem_singleton.1 hx⟩⟩
  .rw[List.mem_singleton.1 hx]at e;unfold rS at e;omega
  .rw[List.mem_singleton.1 hx]at e;unfold rS at e;omega
 have hs:Zt.ahe t (home,n) s'=ze t home {h with live:=ze h.live n s'}:=by unfold Zt.ahe;rw[(f.look hi).1]
 rw[hs]
 refine hi.old k hR f.hb f.hp ⟨m,cs,f.row.keep k (by simp[rH,rL,rS]<;>omega),f.map.write f.hc f.hq (f.map.map.keep k (by simp[rH,rL,rS]<;>omega)) hn fun c' k' x hc _ hx=>hx.keep k (fun hm=>?_) (by simp[rH,rL,rS]<;>omega)⟩
 have e:=List.mem_singleton.1 hm
 unfold rS at e
 exact hc (apU (b:=b) (c:=c') (b':=b) (c':=c) (by omega)).2
theorem wX.delS{home:Str}{n:Int}{i b m j c:Nat}{h:xz}{cs:List Nat}{s:yw}(hi:wX tag I T M bs t)(f:aad tag I bs t home n i b h m cs j c s)(k:qe [rL b] ro tag I tag' I')(hm:zX kI tag' I' (rL b) m (jM (kvP h.live cs) n)):wX tag' I' T M bs (af1 t (home,n)):=by
 have hR:ags b [rL b]:=by
  refine⟨by simp[rH,rL,rS]<;>omega,by simp[rH,rL,rS]<;>omega,by simp[rH,rL,rS]<;>omega,fun x hx e=>?_,fun x hx e=>List.mem_singleton.1 hx,fun x hx e=>?_⟩
  .rw[List.mem_singleton.1 hx]at e;unfold rL at e;omega
  .rw[List.mem_singleton.1 hx]at e;unfold rL at e;omega
 have hs:Zt.af1 t (home,n)=ze t home {h with live:=jM h.live n}:=by unfold Zt.af1;rw[(f.look hi).1]
 rw[hs]
 exact hi.old k hR f.hb f.hp ⟨m,cs.eraseIdx j,f.row.keep k (by simp[rH,rL,rS]<;>omega),f.map.del f.hc f.hq hm fun c' k' x hx=>hx.keep k (by simp[rH,rL,rS]<;>omega) (by simp[rH,rL,rS]<;>omega)⟩
end
theorem air{κ α:Type}[DecidableEq κ]:∀ {m:List (κ×α)} {k:κ} {v:α},qT m k=some v->ze m k v=m
 | [],k,v,h=>by cases h
 | (k',v')::m,k,v,h=>by
  unfold qT at h
  unfold ze
  split at h
  .rename_i e;cases h;rw[if_pos e,e]
  .rename_i e;rw[if_neg e,air h]
end Zt
namespace SL
open Go
variable{P:Program}{B:World}{ro I I':AH}{tag tag':Nat->Nat}
theorem adE(a:Addr)(p i:Nat):(a.add p).add i=a.add (p+i):=by
 cases p with
 | zero=>show a.add i=_;rw[Nat.zero_add]
 | succ p=>
  cases i with
  | zero=>rfl
  | succ i=>
   obtain⟨b,o,s⟩:=a
   cases s with
   | none=>simp[Addr.add];omega
   | some s=>simp[Addr.add];omega
theorem wx.ptr{s:Sl}{l:List Value}(h:wx ro I s l)(hl:0<l.length):∃ p,s.a=some p/\∀ i v,l[i]?=some v->qa ro I (p.add i)=some v:=by
 cases e:s.a with
 | none=>have:=h.2.1 e;subst this;simp at hl
 | some p=>exact⟨p,rfl,h.2.2 p e⟩
theorem jm.at{w:Nat}{s:Sl}{l:List (List Value)}(h:jm ro I w s l){j:Nat}{x:List Value}(hj:l[j]?=some x):∃ q,s.a=some q/\qf ro I (q.add (j*w)) 0 x:=by
 have hjl:j<l.length:=(List.getElem?_eq_some_iff.1 hj).1
 cases e:s.a with
 | none=>have:=h.2.1 e;subst this;simp at hjl
 | some q=>
  refine⟨q,rfl,zr 0 fun i v hv=>?_⟩
  have hw:=h.2.2.1 x (List.mem_of_getElem? hj)
  have hi:i<w:=by
   have:=(List.getElem?_eq_some_iff.1 hv).1
   omega
  have:=h.2.2.2 q e (j*w+i) v (by rw[ajs h.2.2.1 hj hi];exact hv)
  rw[Nat.zero_add,adE];exact this
end SL
namespace Wi
open Go SL G Zt
variable{B:World}{ro I I':AH}{tag tag':Nat->Nat}
theorem aeO{m:Nat}:∀ (ps:List Str) (a:Str×Bool),(∀p∈ps,p.length<=m)->(ps.foldl wl a).1.length<=a.1.length+ps.length*(m+9)
 | [],a,_=>by simp
 | p::ps,a,h=>by
  have h1:=aeO ps (wl a p) fun q hq=>h q (by simp[hq])
  have h2:=yF a p
  have h3:=h p (by simp)
  rw[List.foldl_cons,List.length_cons,Nat.succ_mul]
  omega
theorem arc{r W m:Nat}{s:Sl}{a:Str×Bool}{ps:List Str}{Q:AH->Prop}(h:vk tag I r W a.1 a.2)(hr:r≠1)(hs:SL.Sep ro I)(hm:∀ p∈ps,p.length<=m)(hl:a.1.length+ps.length*(m+9)<=140737488355328)
  (hx:∀ tag' I',qe [r,r+64,1] ro tag I tag' I'->SL.wx ro I' s (ps.map Pa.vS))
  (hQ:∀ tag' I',qe [r,r+64,1] ro tag I tag' I'->vk tag' I' r W (ps.foldl wl a).1 (ps.foldl wl a).2->Q I'):vf B ro (some ⟨W,0,none⟩) s I Q:=by
 refine adf fun _=>?_
 unfold pj
 have hsl:s.len=ps.length:=by rw[(hx tag I (qe.refl hs)).1,List.length_map]
 suffices∀(k j:Nat) (tag1:Nat->Nat) (I1:AH),j+k=ps.length->qe [r,r+64,1] ro tag I tag1 I1->vk tag1 I1 r W ((ps.take j).foldl wl a).1 ((ps.take j).foldl wl a).2->lfpD (ku B ro (some ⟨W,0,none⟩) s Q) (j:Int) I1 from
  this _ 0 tag I (Nat.zero_add _) (qe.refl hs) (by simpa using h)
 have hps:ps.length<=140737488355328:=by
  have:ps.length*9<=ps.length*(m+9):=Nat.mul_le_mul_left _ (by omega)
  omega
 intro k
 induction k with
 | zero=>
  intro j tag1 I1 hj st h1
  refine lfpD.intro ?_
  unfold ku
  rw[if_neg (by omega)]
  rw[List.take_of_length_le (by omega)]at h1
  exact hQ tag1 I1 st h1
 | succ k ih=>
  intro j tag1 I1 hj st h1
  have hjl:j<ps.length:=by omega
  have hp0:=hm ps[j] (List.getElem_mem hjl)
  have hlen:((ps.take j).foldl wl a).1.length+(9+ps[j].length)<=140737488355328:=by
   have:=aeO (ps.take j) a fun p hp=>hm p (List.mem_of_mem_take hp)
   rw[List.length_take,Nat.min_eq_left (by omega)]at this
   have h2:(j+1)*(m+9)<=ps.length*(m+9):=Nat.mul_le_mul_right _ hjl
   rw[Nat.succ_mul]at h2
   omega
  obtain⟨p,hp,hg⟩:=(hx tag1 I1 st).ptr (by simp;omega)
  refine lfpD.intro ?_
  unfold ku
  rw[if_pos (by omega)]
  refine⟨p,hp,by omega,by omega,S ps[j],?_,_,rfl,?_⟩
  .rw[Int.toNat_natCast,Nat.mul_one]
   exact hg j _ (by rw[List.getElem?_map,List.getElem?_eq_getElem hjl];rfl)
  have hl2:=kM ((ps.take j).foldl wl a) ps[j].length
  rw[show((S ps[j]).size:Int)=(ps[j].length:Nat)from by rw[<-km,L_S]]
  refine aj9 h1 hr st.sep (by omega) fun tag2 I2 st2 h2=>?_
  refine⟨_,rfl,?_⟩
  refine agl h2 st2.sep (by rw[L_S];omega) fun _ _ tag3 I3 st3 h3=>?_
  rw[L_S]at h3
  rw[Pa.inc j (by omega)]
  have e:(ps.take (j+1)).foldl wl a=wl ((ps.take j).foldl wl a) ps[j]:=by
   rw[List.take_add_one,List.getElem?_eq_getElem hjl,List.foldl_append];rfl
  refine ih (j+1) tag3 I3 (by omega) (st.trans (st2.trans (st3.mono (by simp)))) ?_
  rw[e]
  exact h3
theorem xm{a:Str}{n:Int}(h:qN n=true):wR (a,false) n=(a++wb n.toNat,false):=by unfold wR;rw[if_pos h]
theorem uE{a:Str×Bool}{n:Int}(h:qN n=false):(wR a n).2=true:=by unfold wR;rw[h];rfl
theorem jn{a:Str×Bool}{n:Int}(h:a.2=true):(wR a n).2=true:=by unfold wR;split<;>simp[h]
theorem afC{a p:Str}(h:p.length<4611686018427387904):wl (a,false) p=(a++yU p,false):=by
 unfold wl
 rw[xm (by unfold qN;simp;omega),Int.toNat_natCast]
 unfold yU
 simp
theorem agt{a:Str×Bool}{p:Str}(h:a.2=true):(wl a p).2=true:=by unfold wl;exact jn h
theorem alx:∀ (ns:List Int) {a:Str×Bool},a.2=true->(ns.foldl wR a).2=true
 | [],_,h=>h
 | n::ns,a,h=>alx ns (a:=wR a n) (jn h)
theorem akk:∀ (ps:List Str) {a:Str×Bool},a.2=true->(ps.foldl wl a).2=true
 | [],_,h=>h
 | p::ps,a,h=>akk ps (a:=wl a p) (agt h)
theorem akl:∀ (ps:List Str) {a:Str},(∀p∈ps,p.length<4611686018427387904)->ps.foldl wl (a,false)=(a++ps.flatMap yU,false)
 | [],a,_=>by simp
 | p::ps,a,h=>by
  rw[List.foldl_cons,afC (h p (by simp)),akl ps fun q hq=>h q (by simp[hq])]
  simp
theorem ais(ns:List Int):∀ a:Str×Bool,(ns.foldl wR a).1.length<=a.1.length+9*ns.length:=by
 induction ns with
 | nil=>intro a;simp
 | cons n ns ih=>
  intro a
  have:=ih (wR a n)
  have:=kM a n
  rw[List.foldl_cons,List.length_cons];omega
theorem afi{r W:Nat}{a:Str×Bool}(ns:List Int){K:AH->Prop}(h:vk tag I r W a.1 a.2)(hr:r≠1/\r≠0)(hs:SL.Sep ro I)(hl:a.1.length+9*ns.length<=140737488355328)
  (hK:∀ tag' I',qe [r,r+64,1] ro tag I tag' I'->vk tag' I' r W (ns.foldl wR a).1 (ns.foldl wR a).2->K I'):
  nw ro I (.cells (ns.map Zt.vI).toArray 3) fun y I=>wW B ro (some ⟨W,0,none⟩) (⟨some ⟨y,0,none⟩,ns.length,ns.length⟩:Sl) I K:=by
 refine qi (tag:=tag) 0 hs fun y tag1 I1 st1 r1=>?_
 rw[List.size_toArray,List.length_map]at r1
 exact anT (r:=r) (q:=0) (ns:=ns) (a:=a) hr.1 ⟨Ne.symm hr.2,by omega,by omega⟩ (h.keep (st1 [])) (st1 []).sep hl r1 fun tag2 I2 st2 h2=>hK tag2 I2 ((st1 _).trans st2) h2
theorem apV{r W:Nat}{a:Str×Bool}(p:Str){K:AH->Prop}(h:vk tag I r W a.1 a.2)(hr:r≠1/\r≠0)(hs:SL.Sep ro I)(hl:a.1.length+9+p.length<=140737488355328)
  (hK:∀ tag' I',qe [r,r+64,1] ro tag I tag' I'->vk tag' I' r W (wl a p).1 (wl a p).2->K I'):
  nw ro I (.cells #[.string (S p)] 9) fun y I=>vf B ro (some ⟨W,0,none⟩) (⟨some ⟨y,0,none⟩,1,1⟩:Sl) I K:=by
 refine qi (tag:=tag) 0 hs fun y tag1 I1 st1 r1=>?_
 exact alp (r:=r) (q:=0) (p:=p) (a:=a) (h.keep (st1 [])) hr.1 ⟨Ne.symm hr.2,by omega,by omega⟩ (st1 []).sep hl r1 fun tag2 I2 st2 h2=>hK tag2 I2 ((st1 _).trans st2) h2
theorem atd{r W:Nat}{a:Str×Bool}{s:Sl}(p:Str){K:AH->Prop}(h:vk tag I r W a.1 a.2)(hr:r≠1/\r≠0)(hs:SL.Sep ro I)(hl:a.1.length+9+p.length<=140737488355328)
  (hsrc:∀ tag' I',qe [r,r+64,1] ro tag I tag' I'->SL.wx ro I' s (p.map vU)) (hK:∀ tag' I',qe [r,r+64,1] ro tag I tag' I'->vk tag' I' r W (wl a p).1 (wl a p).2->K I'):
  nw ro I (.cells #[Sl.v s] 24) fun y I=>jq B ro (some ⟨W,0,none⟩) (⟨some ⟨y,0,none⟩,1,1⟩:Sl) I K:=by
 have hln:s.len=p.length:=by have:=(hsrc tag I (qe.refl hs)).1;rw[this,List.length_map]
 refine qi (tag:=tag) 0 hs fun y tag1 I1 st1 r1=>?_
 exact alq (r:=r) (q:=0) (p:=p) (a:=a) (h.keep (st1 [])) hr.1 ⟨Ne.symm hr.2,by omega,by omega⟩ (st1 []).sep hl r1 hln (fun tag2 I2 st2=>hsrc tag2 I2 ((st1 _).trans st2)) fun tag2 I2 st2 h2=>hK tag2 I2 ((st1 _).trans st2) h2
end Wi
namespace Zt
open Go SL Pa Wi
structure ahn(x:Rep):Prop where
 data:x.data.length<=1048576
 res:∀ y∈x.results,y.1.length<=1048576
 names:∀ y∈x.names,y.length<=1048576
 evs:∀ y∈x.events,y.2.2.length<=1048576
def abf(a:Str×Bool)(y:Str×Int):Str×Bool:=wR (wl a y.1) y.2
def wev(a:Str×Bool)(y:Int×Int×Str):Str×Bool:=wl (wR (wR a y.1) y.2.1) y.2.2
def wr1(x:Rep):Str×Bool:=[x.code,x.session,(x.results.length:Int)].foldl wR ([],false)
def wr2(x:Rep):Str×Bool:=x.results.foldl abf (wr1 x)
def wr3(x:Rep):Str×Bool:=wl (wR (wr2 x) (x.bad+1)) x.data
def wr4(x:Rep):Str×Bool:=[x.ver,x.ctr,x.own,x.kids,(x.names.length:Int)].foldl wR (wr3 x)
def wr5(x:Rep):Str×Bool:=wR (x.names.foldl wl (wr4 x)) (x.events.length:Int)
def wr6(x:Rep):Str×Bool:=x.events.foldl wev (wr5 x)
def aev(x:Rep):Str×Bool:=wR (wr6 x) x.epoch
theorem ajE{α:Type}{f:Str×Bool->α->Str×Bool}{n:Nat}:∀ (l:List α) (a:Str×Bool),(∀a,∀y∈l,(f a y).1.length<=a.1.length+n)->(l.foldl f a).1.length<=a.1.length+n*l.length
 | [],a,_=>by simp
 | y::l,a,h=>by
  have h1:=ajE l (f a y) fun a z hz=>h a z (by simp[hz])
  have h2:=h a y (by simp)
  rw[List.foldl_cons,List.length_cons,Nat.mul_add]
  omega
theorem aho{α:Type}{f:Str×Bool->α->Str×Bool}(h:∀ a y,a.2=true->(f a y).2=true):∀ (l:List α) {a:Str×Bool},a.2=true->(l.foldl f a).2=true
 | [],_,k=>k
 | y::l,a,k=>aho h l (h a y k)
theorem ard(a:Str×Bool)(y:Str×Int):(abf a y).1.length<=a.1.length+18+y.1.length:=by
 unfold abf
 have:=kM (wl a y.1) y.2
 have:=yF a y.1
 omega
theorem ast(a:Str×Bool)(y:Int×Int×Str):(wev a y).1.length<=a.1.length+27+y.2.2.length:=by
 unfold wev
 have:=yF (wR (wR a y.1) y.2.1) y.2.2
 have:=kM (wR a y.1) y.2.1
 have:=kM a y.1
 omega
theorem aly(x:Rep)(hs:ahn x)(h1:x.results.length<=16)(j:Nat):((x.results.take j).foldl abf (wr1 x)).1.length<=27+1048594*16:=by
 have h:=ajE (f:=abf) (n:=1048594) (x.results.take j) (wr1 x) fun a y hy=>by
  have:=ard a y
  have:=hs.res y (List.mem_of_mem_take hy)
  omega
 have h0:(wr1 x).1.length<=27:=by have:=ais [x.code,x.session,(x.results.length:Int)] ([],false);simpa [wr1]using this
 have h2:(x.results.take j).length<=16:=by rw[List.length_take];omega
 have h3:1048594*(x.results.take j).length<=1048594*16:=Nat.mul_le_mul_left _ h2
 omega
theorem an0(x:Rep)(hs:ahn x)(h1:x.results.length<=16):(wr2 x).1.length<=27+1048594*16:=by
 have:=aly x hs h1 x.results.length
 rw[List.take_length]at this
 exact this
theorem an1(x:Rep)(hs:ahn x)(h1:x.results.length<=16):(wr4 x).1.length<=20000000:=by
 have a:=an0 x hs h1
 have b:=kM (wr2 x) (x.bad+1)
 have c:=yF (wR (wr2 x) (x.bad+1)) x.data
 have d:=ais [x.ver,x.ctr,x.own,x.kids,(x.names.length:Int)] (wr3 x)
 have e:=hs.data
 unfold wr4 wr3 at*
 simp only[List.length_cons,List.length_nil]at d
 omega
theorem asu(x:Rep)(hs:ahn x)(h1:x.results.length<=16)(h2:x.names.length<=4096):(wr5 x).1.length<=20000009+4096*1048585:=by
 have a:=an1 x hs h1
 have b:=aeO (m:=1048576) x.names (wr4 x) hs.names
 have c:x.names.length*(1048576+9)<=4096*1048585:=Nat.mul_le_mul_right _ h2
 have d:=kM (x.names.foldl wl (wr4 x)) (x.events.length:Int)
 unfold wr5
 omega
theorem amM(x:Rep)(hs:ahn x)(h1:x.results.length<=16)(h2:x.names.length<=4096)(h3:x.events.length<=32)(j:Nat):((x.events.take j).foldl wev (wr5 x)).1.length<=5000000000:=by
 have h:=ajE (f:=wev) (n:=1048603) (x.events.take j) (wr5 x) fun a y hy=>by
  have:=ast a y
  have:=hs.evs y (List.mem_of_mem_take hy)
  omega
 have h0:=asu x hs h1 h2
 have h4:(x.events.take j).length<=32:=by rw[List.length_take];omega
 have h5:1048603*(x.events.take j).length<=1048603*32:=Nat.mul_le_mul_left _ h4
 omega
theorem asv(x:Rep)(hs:ahn x)(h1:x.results.length<=16)(h2:x.names.length<=4096)(h3:x.events.length<=32):(wr6 x).1.length<=5000000000:=by
 have:=amM x hs h1 h2 h3 x.events.length
 rw[List.take_length]at this
 exact this
theorem alz:∀ (l:List (Str×Int)) {a:Str},(∀y∈l,qN y.2=true/\y.1.length<4611686018427387904)->l.foldl abf (a,false)=(a++aim l,false)
 | [],a,_=>by simp[aim]
 | y::l,a,h=>by
  obtain⟨h1,h2⟩:=h y (by simp)
  rw[List.foldl_cons]
  have:abf (a,false) y=(a++(yU y.1++wb y.2.toNat),false):=by
   unfold abf;rw[afC h2,xm h1,List.append_assoc]
  rw[this,alz l fun z hz=>h z (by simp[hz])]
  unfold aim
  simp
theorem amN:∀ (l:List (Int×Int×Str)) {a:Str},(∀y∈l,(qN y.1=true/\qN y.2.1=true)/\y.2.2.length<4611686018427387904)->l.foldl wev (a,false)=(a++ain l,false)
 | [],a,_=>by simp[ain]
 | y::l,a,h=>by
  obtain⟨⟨h1,h2⟩,h3⟩:=h y (by simp)
  rw[List.foldl_cons]
  have:wev (a,false) y=(a++(wb y.1.toNat++(wb y.2.1.toNat++yU y.2.2)),false):=by
   unfold wev;rw[xm h1,xm h2,afC h3];simp
  rw[this,amN l fun z hz=>h z (by simp[hz])]
  unfold ain
  simp
theorem akY{α:Type}{f:Str×Bool->α->Str×Bool}(hb:∀ a y,a.2=true->(f a y).2=true){p:α->Prop}(hn:∀ a y,¬p y->(f a y).2=true):∀ (l:List α) {a:Str×Bool},(¬ ∀y∈l,p y)->(l.foldl f a).2=true
 | [],_,h=>absurd (fun y hy=>by cases hy) h
 | y::l,a,h=>by
  rw[List.foldl_cons]
  by_cases c:p y
  .refine akY hb hn l fun hall=>h fun z hz=>?_
   rcases List.mem_cons.1 hz with rfl | hz
   .exact c
   .exact hall z hz
  .exact aho hb l (hn a y c)
theorem abg{n:Int}(h:¬ qN n=true):qN n=false:=by simpa using h
theorem arf{α:Type}{l:List α}{n:Nat}(h:l.length<=n)(hn:n<4611686018427387904):qN (l.length:Int)=true:=by rw[aeN];omega
theorem amO(a:Str×Bool)(y:Str×Int)(h:a.2=true):(abf a y).2=true:=by unfold abf;exact jn (agt h)
theorem an2(a:Str×Bool)(y:Int×Int×Str)(h:a.2=true):(wev a y).2=true:=by unfold wev;exact agt (jn (jn h))
theorem amP{x:Rep}(h:adl x)(hs:ahn x):aev x=(aio x,false):=by
 obtain⟨h1,h2,h3,h4,h5,c1,c2,c3,c4,c5,c6,c7,h6,h7⟩:=h
 have e1:wr1 x=(wb x.code.toNat++wb x.session.toNat++wb x.results.length,false):=by
  unfold wr1
  simp only[List.foldl_cons,List.foldl_nil]
  rw[xm c1,xm c2,xm (arf h1 (by decide)),Int.toNat_natCast];simp
 have e2:=alz x.results (a:=wb x.code.toNat++wb x.session.toNat++wb x.results.length) fun y hy=>⟨h6 y hy,by have:=hs.res y hy;omega⟩
 have cb:qN (x.bad+1)=true:=by rw[aeN];omega
 unfold aev wr6 wr5 wr4 wr3 wr2
 rw[e1,e2,xm cb,afC (by have:=hs.data;omega)]
 simp only[List.foldl_cons,List.foldl_nil]
 rw[xm c3,xm c4,xm c5,xm c6,xm (arf h2 (by decide)),Int.toNat_natCast,akl x.names fun y hy=>by have:=hs.names y hy;omega]
 rw[xm (arf h3 (by decide)),Int.toNat_natCast,amN x.events fun y hy=>⟨h7 y hy,by have:=hs.evs y hy;omega⟩,xm c7]
 unfold aio
 simp only[List.append_assoc,List.nil_append]
theorem asw{x:Rep}(h:¬ adl x)(h1:x.results.length<=16)(h2:x.names.length<=4096)(h3:x.events.length<=32)(h5:x.bad<4611686018427387903):(aev x).2=true:=by
 have f6:(wr6 x).2=true->(aev x).2=true:=fun k=>jn k
 have f5:(wr5 x).2=true->(aev x).2=true:=fun k=>f6 (aho an2 _ k)
 have f4:(wr4 x).2=true->(aev x).2=true:=fun k=>f5 (jn (akk _ k))
 have f3:(wr3 x).2=true->(aev x).2=true:=fun k=>f4 (alx _ k)
 have f2:(wr2 x).2=true->(aev x).2=true:=fun k=>f3 (agt (jn k))
 have f1:(wr1 x).2=true->(aev x).2=true:=fun k=>f2 (aho amO _ k)
 by_cases c1:qN x.code=true
 .by_cases c2:qN x.session=true
  .by_cases c3:∀ y∈x.results,qN y.2=true
   .by_cases c4:qN (x.bad+1)=true
    .by_cases c5:qN x.ver=true
     .by_cases c6:qN x.ctr=true
      .by_cases c7:qN x.own=true
       .by_cases c8:qN x.kids=true
        .by_cases c9:∀ y∈x.events,qN y.1=true/\qN y.2.1=true
         .by_cases c10:qN x.epoch=true
          .have:=aeN.1 c4
           exact absurd ⟨h1,h2,h3,by omega,h5,c1,c2,c5,c6,c7,c8,c10,c3,c9⟩ h
          .exact uE (abg c10)
         .refine f6 (akY (p:=fun y:Int×Int×Str=>qN y.1=true/\qN y.2.1=true) an2 (fun a y hy=>?_) _ c9)
          unfold wev
          refine agt ?_
          by_cases d:qN y.1=true
          .exact uE (abg fun e=>hy ⟨d,e⟩)
          .exact jn (uE (abg d))
        .exact f4 (jn (uE (abg c8)))
       .exact f4 (jn (jn (uE (abg c7))))
      .exact f4 (jn (jn (jn (uE (abg c6)))))
     .exact f4 (jn (jn (jn (jn (uE (abg c5))))))
    .exact f3 (agt (uE (abg c4)))
   .refine f2 (akY (p:=fun y:Str×Int=>qN y.2=true) amO (fun a y hy=>?_) _ c3)
    unfold abf
    exact uE (abg hy)
  .exact f1 (jn (uE (abg c2)))
 .exact f1 (jn (jn (uE (abg c1))))