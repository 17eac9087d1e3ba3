import Derived.Test.YtomdigihapdhnaaGreatDoorXL
set_option linter.all false
set_option maxRecDepth 99999
set_option maxHeartbeats 0
open Go.IntKind(i64)
namespace Go.Proofs.YtomdigihapdhnaaGreatDoor
namespace Zt
open Go SL Pa Wi
variable{b c:Nat}{st:St}
theorem ajr{p:Str}{v:Int}(h:ww b st)(hb:b<=4398046511103):ww b (wL st p v).1:=by
 have hi:=aj1 (p:=p) (v:=v) h.inv (by have:=h.len;omega)
 have hlen:=aj0 st p v
 rcases abZ st p v with⟨e,_,he⟩ | ⟨n,u,he,hn,hne,hu,hk⟩
 .rw[he];exact h
 .rw[he]at hi hlen⊢
  simp only at hi hlen⊢
  have hnd:((wi st u yy).map (·.1)).Nodup:=by rw[ui];exact h.inv.keys
  have hl:∀ k m,(yn (wi st u yy) p).lookup k=some m->∃ m',st.lookup k=some m'/\(m=m'\/m=yy m'):=fun k m hk=>by
   rw[abt hnd]at hk
   split at hk
   .cases hk
   .rw[zd]at hk
    split at hk
    .obtain⟨m',h1,h2⟩:=Option.map_eq_some_iff.1 hk
     exact⟨m',h1,.inr h2.symm⟩
    .exact⟨m,hk,.inl rfl⟩
  refine⟨hi,fun k m hk=>?_,fun k m hk=>?_,fun m hk=>?_,by have:=h.len;omega⟩
  .obtain⟨m',h1,h2⟩:=hl k m hk
   have:=h.ver k m' h1
   rcases h2 with rfl | rfl
   .omega
   .show 0<=m'.ver/\m'.ver<=_;omega
  .obtain⟨m',h1,h2⟩:=hl k m hk
   have:=h.own k m' h1
   rcases h2 with rfl | rfl
   .exact this
   .exact this
  .obtain⟨m',h1,h2⟩:=hl _ m hk
   have:=h.rt m' h1
   rcases h2 with rfl | rfl
   .exact this
   .exact this
theorem aot{home:Str}{ws:List Int}(h:ww b st)(hb:b<=4398046511103):ww b (pd st home ws).1:=by
 have key:∀ (ks:List Str) (a:St×List Str),ww b a.1->ww b (ks.foldl (yd home) a).1:=by
  intro ks
  induction ks with
  | nil=>intro a h;exact h
  | cons k ks ih=>
   intro a h
   rw[List.foldl_cons]
   refine ih _ ?_
   unfold yd
   split
   .exact ajr h hb
   .exact h
 exact key _ _ h
structure agi(b:Nat)(s:jQ):Prop where
 nonce:okN s.nonce=true
 lease:1<=s.lease/\s.lease<=1048576
 beats:0<=s.beats/\s.beats<=b
 req:0<=s.req/\s.req<=4611686018427387903
 reply:s.reply.length<=1048576
structure adC(b:Nat)(h:kW):Prop where
 last:0<=h.last/\h.last<=b
 keys:(h.live.map (·.1)).Nodup
 rng:∀ p∈h.live,1<=p.1/\p.1<=h.last
 non:(h.live.map (·.2.nonce)).Nodup
 len:h.live.length<=64
 ok:∀ p∈h.live,agi b p.2
structure ab6(b:Nat)(k:Str×Int)(d:jR):Prop where
 room:d.events.length+d.marks.length<=32
 last:0<=d.last/\d.last+d.marks.length<=b
 evs:∀ e∈d.events,(1<=e.1/\e.1<=d.last)/\(1<=e.2.1/\e.2.1<=4)/\e.2.2.length<=128
 ack:0<=d.acked/\d.acked<=d.last
 nd:d.marks.Nodup
 mks:∀ m∈d.marks,adk k m=0
structure kg(b:Nat)(t:Tbl):Prop where
 keys:(t.map (·.1)).Nodup
 ok:∀ p∈t,we p.1=true/\adC b p.2
 len:t.length<=b
structure kx(b:Nat)(h:Hub):Prop where
 keys:(h.map (·.1)).Nodup
 ok:∀ p∈h,ab6 b p.1 p.2
 len:h.length<=b
structure vE(b:Nat)(s:Sto):Prop where
 tree:ww (20*b) s.tree
 tbl:kg b s.tbl
 hub:kx b s.hub
 ep:0<=s.epoch/\s.epoch<=b
 mem:s.members.length<=7
theorem agi.mono{s:jQ}(h:agi b s)(hc:b<=c):agi c s:=⟨h.nonce,h.lease,by have:=h.beats;omega,h.req,h.reply⟩
theorem adC.mono{h:kW}(k:adC b h)(hc:b<=c):adC c h:=⟨by have:=k.last;omega,k.keys,k.rng,k.non,k.len,fun p hp=>(k.ok p hp).mono hc⟩
theorem ab6.mono{k:Str×Int}{d:jR}(h:ab6 b k d)(hc:b<=c):ab6 c k d:=⟨h.room,by have:=h.last;omega,h.evs,h.ack,h.nd,h.mks⟩
theorem kg.mono{t:Tbl}(h:kg b t)(hc:b<=c):kg c t:=⟨h.keys,fun p hp=>⟨(h.ok p hp).1,(h.ok p hp).2.mono hc⟩,by have:=h.len;omega⟩
theorem kx.mono{t:Hub}(h:kx b t)(hc:b<=c):kx c t:=⟨h.keys,fun p hp=>(h.ok p hp).mono hc,by have:=h.len;omega⟩
section
variable{κ α:Type}[DecidableEq κ]{m:List (κ×α)}{a:α}{k:κ}{p:κ×α}
theorem aig{k':κ}:qI (wD m k a) k'=if k'=k then some a else qI m k':=by
 induction m with
 | nil=>unfold wD qI qI;rfl
 | cons p m ih=>
  obtain⟨pk,pa⟩:=p
  unfold wD
  by_cases c:k=pk
  .subst c
   rw[if_pos rfl]
   by_cases e:k'=k
   .subst e;simp[qI]
   .simp[qI,e]
  .rw[if_neg c]
   unfold qI
   rw[ih]
   by_cases e:k'=pk
   .subst e;rw[if_pos rfl,if_pos rfl,if_neg (Ne.symm c)]
   .rw[if_neg e,if_neg e]
theorem ad9:(wD m k a).map (·.1)=if k∈m.map (·.1)then m.map (·.1)else m.map (·.1)++[k]:=by
 induction m with
 | nil=>simp[wD]
 | cons p m ih=>
  obtain⟨pk,pa⟩:=p
  unfold wD
  by_cases c:k=pk
  .subst c;simp
  .rw[if_neg c,List.map_cons,ih,List.map_cons]
   by_cases e:k∈m.map (·.1)
   .rw[if_pos e,if_pos (by simp only[List.mem_cons];exact .inr e)]
   .rw[if_neg e,if_neg (by simp only[List.mem_cons,not_or];exact⟨c,e⟩)];rfl
theorem ag7(h:(m.map (·.1)).Nodup):((wD m k a).map (·.1)).Nodup:=by
 rw[ad9]
 split
 .exact h
 .rename_i e
  rw[List.nodup_append]
  exact⟨h,by simp,fun x hx y hy he=>e (by simp at hy;rw[<-hy,<-he];exact hx)⟩
theorem afg(h:p∈wD m k a):p=(k,a)\/(p∈m):=by
 induction m with
 | nil=>simp[wD]at h;exact .inl h
 | cons q m ih=>
  obtain⟨pk,pa⟩:=q
  unfold wD at h
  split at h
  .rcases List.mem_cons.1 h with h | h
   .exact .inl h
   .exact .inr (by simp[h])
  .rcases List.mem_cons.1 h with h | h
   .exact .inr (by simp[h])
   .rcases ih h with h | h
    .exact .inl h
    .exact .inr (by simp[h])
theorem ajs:(wD m k a).length=if k∈m.map (·.1)then m.length else m.length+1:=by
 have:=congrArg List.length (ad9 (m:=m) (k:=k) (a:=a))
 rw[List.length_map]at this
 rw[this]
 split<;>simp
theorem ai8{x:α}(h:qI m k=some x):(wD m k a).length=m.length:=by
 rw[ajs,if_pos (by rw[<-Classical.not_not (a:=k∈_),<-xi,h];simp)]
theorem ag8:(jN m k).Sublist m:=by
 induction m with
 | nil=>exact List.Sublist.slnil
 | cons p m ih=>
  obtain⟨pk,pa⟩:=p
  unfold jN
  split
  .exact List.sublist_cons_self _ _
  .exact ih.cons_cons _
end
end Zt
namespace Zt
open Go SL Pa Wi
variable{h:Hub}{kind n owner qb qn req:Int}{o:MOp}{b:Nat}{x:Rep}{st:St}{s:Sto}{d home p:Str}{k:Str×Int}{t:Tbl}{c:vY}{m:xP}
theorem aiB:okN n=true↔1<=n/\n<=4611686018427387903:=by unfold okN;simp
theorem ag9{k:Str}{h:kW}(i:kg b t)(hk:qI t k=some h):we k=true/\adC b h:=i.ok _ (pS hk)
theorem aha(i:kg b t)(k:Str):adC b (qJ t k):=by
 unfold qJ
 cases e:qI t k with
 | none=>exact⟨⟨by show(0:Int)<=0;omega,by show(0:Int)<=b;omega⟩,List.nodup_nil,(fun p h=>by cases h),List.nodup_nil,Nat.zero_le _,fun p h=>by cases h⟩
 | some h=>exact(ag9 i e).2
theorem akP{k:Str}{h:kW}(i:kg b t)(hn:we k=true)(hh:adC b h)(hl:(qI t k).isSome=true\/t.length+1<=b):kg b (wD t k h):=by
 refine⟨ag7 i.keys,fun p hp=>?_,?_⟩
 .rcases afg hp with rfl | hp
  .exact⟨hn,hh⟩
  .exact i.ok p hp
 .rw[ajs]
  have:=i.len
  split
  .exact this
  .rename_i hm
   rw[<-xi]at hm
   rcases hl with hl | hl
   .rw[hm]at hl;cases hl
   .exact hl
theorem apC{nonce lease:Int}(i:kg b t):kg (b+1) (vm t home nonce lease).1:=by
 unfold vm
 split
 .exact i.mono (by omega)
 rename_i h1
 split
 .exact i.mono (by omega)
 rename_i h2
 split
 .exact i.mono (by omega)
 rename_i h3
 split
 .exact i.mono (by omega)
 rename_i h4
 split
 .exact i.mono (by omega)
 rename_i h5
 simp only[Bool.not_eq_false]at h1 h2
 obtain⟨a1,a2,a3,a4,a5,a6⟩:=aha i home
 have hnk:qI (qJ t home).live ((qJ t home).last+1)=none:=by
  rw[xi]
  intro hm
  obtain⟨p,hp,e⟩:=List.mem_map.1 hm
  have:=(a3 p hp).2
  omega
 refine akP (i.mono (by omega)) h1 ?_ (.inr (by have:=i.len;omega))
 unfold aeJ
 rw[ae8 _ hnk]
 simp only[not_or]at h5
 have hnn:∀ p∈(qJ t home).live,p.2.nonce≠nonce:=fun p hp e=>by
  unfold adQ at h4
  have:=List.find?_eq_none.1 h4 p hp
  simp[e]at this
 refine⟨by simp only;omega,?_,fun p hp=>?_,?_,by simp;omega,fun p hp=>?_⟩
 .simp only
  rw[List.map_append,List.nodup_append]
  rw[xi]at hnk
  exact⟨a2,by simp,fun x hx y hy e=>hnk (by simp at hy;rw[<-hy,<-e];exact hx)⟩
 .rcases List.mem_append.1 hp with hp | hp
  .have:=a3 p hp;simp only;omega
  .rw[List.mem_singleton.1 hp];simp only;omega
 .simp only
  rw[List.map_append,List.nodup_append]
  refine⟨a4,by simp,fun x hx y hy e=>?_⟩
  obtain⟨p,hp,rfl⟩:=List.mem_map.1 hx
  simp at hy
  exact hnn p hp (by rw[e,hy])
 .rcases List.mem_append.1 hp with hp | hp
  .exact(a6 p hp).mono (by omega)
  .rw[List.mem_singleton.1 hp]
   exact⟨h2,(by show 1<=lease/\lease<=1048576;omega),⟨by show(0:Int)<=0;omega,by show(0:Int)<=((b+1:Nat):Int);omega⟩,⟨by show(0:Int)<=0;omega,by show(0:Int)<=4611686018427387903;omega⟩,Nat.zero_le _⟩
theorem aj8{e:Int}{s:jQ}(h:jj t k=(e,some s)):e=0/\∃ hs,qI t k.1=some hs/\1<=k.2/\k.2<=hs.last/\qI hs.live k.2=some s:=by
 unfold jj at h
 split at h
 .cases h
 .rename_i hs e1
  split at h
  .cases h
  .rename_i e2
   split at h
   .cases h
   .rename_i s' e3
    cases h
    exact⟨rfl,hs,e1,by omega,by omega,e3⟩
theorem ab7(t:Tbl)(k:Str×Int):(∃s,jj t k=(0,some s))\/∃ e,(e=150\/e=151)/\jj t k=(e,none):=by
 unfold jj
 split
 .exact .inr ⟨150,.inl rfl,rfl⟩
 .split
  .exact .inr ⟨150,.inl rfl,rfl⟩
  .split
   .exact .inr ⟨151,.inr rfl,rfl⟩
   .exact .inl ⟨_,rfl⟩
theorem amz{s s':jQ}(i:kg b t)(hf:jj t k=(0,some s))(hn:s'.nonce=s.nonce)(hs:agi b s'):kg b (adB t k s'):=by
 obtain⟨_,hh,h1,h2,h3,h4⟩:=aj8 hf
 unfold adB
 rw[h1]
 obtain⟨hk,a1,a2,a3,a4,a5,a6⟩:=ag9 i h1
 refine akP i hk ?_ (.inl (by rw[h1];try rfl))
 have hmem:=pS h4
 obtain⟨j,hj,ej⟩:=List.getElem_of_mem hmem
 have hj':hh.live[j]?=some (k.2,s):=by rw[List.getElem?_eq_getElem hj,ej]
 refine⟨a1,ag7 a2,fun p hp=>?_,?_,by simp only;rw[ai8 h4];exact a5,fun p hp=>?_⟩
 .rcases afg hp with rfl | hp
  .exact⟨h2,h3⟩
  .exact a3 p hp
 .simp only
  rw[ae7 s' a2 hj']
  have:(hh.live.set j (k.2,s')).map (·.2.nonce)=hh.live.map (·.2.nonce):=by
   apply List.ext_getElem?
   intro x
   rw[List.map_set,List.getElem?_set,List.getElem?_map]
   by_cases e:j=x
   .subst e;rw[hj'];simp[hj,hn]
   .rw[if_neg e]
  rw[this];exact a4
 .rcases afg hp with rfl | hp
  .exact hs
  .exact a6 p hp
theorem agj{s:jQ}(i:kg b t)(hf:jj t k=(0,some s)):agi b s:=by
 obtain⟨_,hh,h1,h2,h3,h4⟩:=aj8 hf
 exact(ag9 i h1).2.ok _ (pS h4)
theorem amA(i:kg b t):kg b (afV t k):=by
 unfold afV
 split
 .exact i
 rename_i hh h1
 obtain⟨hk,a1,a2,a3,a4,a5,a6⟩:=ag9 i h1
 refine akP i hk ?_ (.inl (by rw[h1];try rfl))
 have hsub:(jN hh.live k.2).Sublist hh.live:=ag8
 exact⟨a1,List.Nodup.sublist (hsub.map _) a2,fun p hp=>a3 p (hsub.subset hp),List.Nodup.sublist (hsub.map _) a4,by have:=hsub.length_le;simp only;omega,fun p hp=>a6 p (hsub.subset hp)⟩
theorem aou(i:kg b t):kg (b+1) (ab4 t k).1:=by
 unfold ab4
 rcases ab7 t k with⟨s,e⟩ | ⟨x,_,e⟩
 .rw[e]
  have hs:=agj i e
  exact amz (i.mono (by omega)) e rfl ⟨hs.nonce,hs.lease,by have:=hs.beats;simp only;omega,hs.req,hs.reply⟩
 .rw[e];exact i.mono (by omega)
theorem aqT(i:kg b t)(hd:d.length<=1048576):kg b (adj t k req d).1:=by
 unfold adj
 rcases ab7 t k with⟨s,e⟩ | ⟨x,_,e⟩
 .rw[e]
  have hs:=agj i e
  simp only
  split
  .exact i
  .rename_i hn
   split
   .exact i
   .simp only[Bool.not_eq_false]at hn
    have:=aiB.1 hn
    exact amz i e rfl ⟨hs.nonce,hs.lease,hs.beats,by simp only;omega,hd⟩
 .rw[e];exact i
theorem afW(i:kg b t):kg b (kw t k n).1:=by
 unfold kw
 rcases ab7 t k with⟨s,e⟩ | ⟨x,_,e⟩
 .rw[e]
  simp only
  split
  .exact amA i
  .exact i
 .rw[e];exact i
theorem ahb(i:kg b t):kg b (aaq t k).1:=by
 unfold aaq
 rcases ab7 t k with⟨s,e⟩ | ⟨x,_,e⟩
 .rw[e];exact amA i
 .rw[e];exact i
theorem anL{d:jR}(i:kx b h)(hd:ab6 b k d)(hl:(qI h k).isSome=true\/h.length+1<=b):kx b (wD h k d):=by
 refine⟨ag7 i.keys,fun p hp=>?_,?_⟩
 .rcases afg hp with rfl | hp
  .exact hd
  .exact i.ok p hp
 .rw[ajs]
  have:=i.len
  split
  .exact this
  .rename_i hm
   rw[<-xi]at hm
   rcases hl with hl | hl
   .rw[hm]at hl;cases hl
   .exact hl
theorem apD(i:kx b h)(k:Str×Int):ab6 b k (vt h k):=by
 unfold vt
 cases e:qI h k with
 | none=>exact⟨by show 0+0<=32;omega,⟨by show(0:Int)<=0;omega,by show(0:Int)+(0:Nat)<=b;omega⟩,(fun p h=>by cases h),⟨by show(0:Int)<=0;omega,by show(0:Int)<=0;omega⟩,List.nodup_nil,fun p h=>by cases h⟩
 | some d=>exact i.ok _ (pS e)
theorem amB(i:kx b h):kx (b+1) (pE h k m).1:=by
 unfold pE
 split
 .exact i.mono (by omega)
 rename_i h1
 simp only[Classical.not_not]at h1
 split
 .exact i.mono (by omega)
 rename_i h2
 obtain⟨a1,a2,a3,a4,a5,a6⟩:=apD i k
 refine anL (i.mono (by omega)) ?_ (.inr (by have:=i.len;omega))
 unfold aqR
 by_cases c:m∈(vt h k).marks
 .rw[if_pos c]
  exact⟨a1,by simp only;omega,a3,a4,a5,a6⟩
 .rw[if_neg c]
  simp only[not_and]at h2
  have:=h2 c
  refine⟨by simp;omega,by simp;omega,a3,a4,?_,fun x hx=>?_⟩
  .simp only
   rw[List.nodup_append]
   exact⟨a5,by simp,fun x hx y hy e=>c (by simp at hy;rw[<-hy,<-e];exact hx)⟩
  .rcases List.mem_append.1 hx with hx | hx
   .exact a6 x hx
   .rw[List.mem_singleton.1 hx];exact h1
theorem aqU{h:Str}(hh:qK p=some h):p.length<=128:=by
 unfold qK at hh
 split at hh
 .rename_i x r e
  obtain⟨e1,e2⟩:=wd.1 e
  rw[e1];exact e2.len
 .cases hh
theorem aqV(h:adk k m=0):m.1.length<=128:=aqU (am8 h).1
theorem aqW{d:jR}(i:ab6 b k d)(hk:1<=kind/\kind<=4):ab6 b k (aeK m kind d):=by
 unfold aeK
 split
 .rename_i hm
  obtain⟨a1,a2,a3,a4,a5,a6⟩:=i
  have hl:=List.length_erase_of_mem hm
  have hp:=List.length_pos_of_mem hm
  unfold akO
  refine⟨by simp;omega,by simp only;omega,fun e he=>?_,by simp only;omega,a5.erase _,fun x hx=>a6 x (List.mem_of_mem_erase hx)⟩
  rcases List.mem_append.1 he with he | he
  .have:=a3 e he
   exact⟨by simp only;omega,this.2⟩
  .rw[List.mem_singleton.1 he]
   exact⟨by simp only;omega,by simp only;omega,aqV (a6 m hm)⟩
 .exact i
theorem acD(i:kx b h)(hk:1<=kind/\kind<=4):kx b (px h m kind):=by
 unfold px
 refine⟨by rw[List.map_map];exact i.keys,fun p hp=>?_,by rw[List.length_map];exact i.len⟩
 obtain⟨q,hq,rfl⟩:=List.mem_map.1 hp
 exact aqW (i.ok q hq) hk
theorem aqX{e:Int×Str}(i:kx b h):kx b (aad h e):=by
 unfold aad
 split
 .exact i
 .split
  .exact i
  .rename_i hc
   have i1:kx b (px h (e.2,1) e.1):=acD i (by omega)
   simp only
   split
   .split
    .exact acD (acD i1 (by omega)) (by omega)
    .exact acD i1 (by omega)
   .split
    .exact acD i1 (by omega)
    .exact i1
theorem ahc:∀ (l:List (Int×Str)) {h:Hub},kx b h->kx b (ye h l)
 | [],_,i=>i
 | e::l,_,i=>ahc l (aqX i)
theorem amC(i:kx b h):kx b (jN h k):=
 ⟨List.Nodup.sublist (ag8.map _) i.keys,fun p hp=>i.ok p (ag8.subset hp),Nat.le_trans ag8.length_le i.len⟩
theorem agk(i:kx b h):kx b (afd h k n).1:=by
 unfold afd
 split
 .exact i
 .rename_i d hd
  split
  .exact i
  .rename_i hc
   have hd0:ab6 b k d:=i.ok _ (pS hd)
   obtain⟨a1,a2,a3,a4,a5,a6⟩:=hd0
   refine anL i ?_ (.inl (by rw[hd];try rfl))
   have hl:=List.length_filter_le (fun e:Int×Int×Str=> !decide (e.1<=n)) d.events
   refine⟨?_,a2,fun e he=>a3 e (List.mem_filter.1 he).1,?_,a5,a6⟩
   .show(d.events.filter _).length+d.marks.length<=32
    omega
   .show 0<=max d.acked n/\max d.acked n<=d.last
    omega
theorem aeL:qQ n=true↔0<=n/\n<=4611686018427387903:=by unfold qQ;simp
theorem apE(h:qQ n=true):((n.toNat:Nat):Int)=n/\n.toNat<4611686018427387904:=by
 have:=aeL.1 h;omega
theorem aqY(r:Rd):(qR r).1<4611686018427387904:=by
 unfold qR
 split
 .show 0<4611686018427387904;omega
 .exact(apd _).2
structure afx(x:Rep):Prop where
 data:x.data.length<=256
 res:∀ y∈x.results,y.1.length<=128
 names:∀ y∈x.names,y.length<=128
 evs:∀ y∈x.events,y.2.2.length<=128
theorem afX(h:qQ n=true):(wg n.toNat).length<=9:=(uZ 8 n.toNat (by have:=(apE h).2;omega)).2
theorem aj9{n:Nat}(h:n<4611686018427387904):(wg n).length<=9:=(uZ 8 n (by omega)).2
theorem aov{m:Nat}(h:d.length<=m)(hm:m<4611686018427387904):(yZ d).length<=9+m:=by
 unfold yZ
 have:=aj9 (n:=d.length) (by omega)
 rw[List.length_append];omega
theorem yW{α:Type}{f:α->Str}{n:Nat}:∀ {l:List α},(∀y∈l,(f y).length<=n)->(l.flatMap f).length<=n*l.length
 | [],_=>by simp
 | y::l,h=>by
  have h1:=yW (l:=l) fun z hz=>h z (by simp[hz])
  have h2:=h y (by simp)
  rw[List.flatMap_cons,List.length_append,List.length_cons,Nat.mul_add]
  omega
theorem asg(h:adm x)(ht:afx x):(aid x).length<=1048576:=by
 obtain⟨h1,h2,h3,h4,h5,c1,c2,c3,c4,c5,c6,c7,h6,h7⟩:=h
 have e1:=afX c1
 have e2:=afX c2
 have e3:=afX c3
 have e4:=afX c4
 have e5:=afX c5
 have e6:=afX c6
 have e7:=afX c7
 have e8:(wg (x.bad+1).toNat).length<=9:=aj9 (by omega)
 have e9:=aj9 (n:=x.results.length) (by omega)
 have e10:=aj9 (n:=x.names.length) (by omega)
 have e11:=aj9 (n:=x.events.length) (by omega)
 have e12:=aov ht.data (by decide)
 have f1:(aib x.results).length<=146*x.results.length:=yW fun y hy=>by
  rw[List.length_append]
  have:=afX (h6 y hy)
  have:=aov (ht.res y hy) (by decide)
  omega
 have f2:(x.names.flatMap yZ).length<=137*x.names.length:=yW fun y hy=>by
  have:=aov (ht.names y hy) (by decide)
  omega
 have f3:(aic x.events).length<=155*x.events.length:=yW fun y hy=>by
  rw[List.length_append,List.length_append]
  have:=afX (h7 y hy).1
  have:=afX (h7 y hy).2
  have:=aov (ht.evs y hy) (by decide)
  omega
 unfold aid
 simp only[List.length_append]
 omega
theorem anM(ht:afx x):((aar x).getD []).length<=1048576:=by
 unfold aar
 split
 .rename_i h;exact asg h ht
 .simp
theorem aqZ(h:ww b st)(hb:b<=4398046511103):(xf owner st o).2.1.length<=128/\0<=(xf owner st o).2.2.1/\(xf owner st o).2.2.1<=4398046511104:=by
 unfold xf
 split
 .rcases ai4 st o.path o.data (if o.eph=true then owner else 0) o.seq with⟨e,_,he⟩ | ⟨q,u,n,he,_,_,_,_,hq,_⟩
  .rw[he];simp
  .rw[he]
   refine⟨?_,by simp,by simp⟩
   simp only
   unfold qB at hq
   cases hp:parts q with
   | none=>rw[hp]at hq;cases hq
   | some ps=>
    obtain⟨e1,e2⟩:=wd.1 hp
    rw[e1];exact e2.len
 .split
  .exact⟨by simp,by simp,by simp⟩
  .split
   .rcases ah2 st o.path o.data o.ver with⟨e,_,he⟩ | ⟨n,he,hn,_⟩
    .rw[he];simp
    .rw[he]
     have:=h.ver _ n hn
     have e:i64.wrap (n.ver+1)=n.ver+1:=SL.wb (by omega) (by omega)
     simp only[e]
     exact⟨by simp,by omega,by omega⟩
   .exact⟨by simp,by simp,by simp⟩
theorem am9:∀ {os:List MOp} {i b:Nat} {w w':uG},vg home owner qn qb os i w= .inr w'->ww b w.st->b+os.length<=4398046511103->(∀y∈w.res,y.1.length<=128/\0<=y.2/\y.2<=4398046511104)->
  (∀y∈w'.res,y.1.length<=128/\0<=y.2/\y.2<=4398046511104)/\w'.res.length=w.res.length+os.length:=by
 intro os
 induction os with
 | nil=>intro i b w w' h _ _ hr;cases h;exact⟨hr,rfl⟩
 | cons o os ih=>
  intro i b w w' h hi hb hr
  simp only[List.length_cons]at hb⊢
  unfold vg at h
  split at h
  .cases h
  .rename_i hc
   have h0:(doE home owner qn qb w o).1=0:=by simpa using hc
   have hre:(doE home owner qn qb w o).2.res=w.res++[((xf owner w.st o).2.1,(xf owner w.st o).2.2.1)]:=by
    unfold doE at h0⊢
    split at h0
    .rename_i hx;exact absurd h0 hx
    .rename_i hx
     rw[if_neg hx]
     split at h0
     .rename_i hy;exact absurd h0 hy
     .rename_i hy
      rw[if_neg hy]
      split at h0
      .cases h0
      .rename_i hz;rw[if_neg hz]
   obtain⟨k1,k2⟩:=ih h (agf hi (by omega)) (by omega) fun y hy=>by
    rw[hre]at hy
    rcases List.mem_append.1 hy with hy | hy
    .exact hr y hy
    .rw[List.mem_singleton.1 hy];exact aqZ hi (by omega)
   refine⟨k1,?_⟩
   rw[k2,hre];simp;omega
theorem ash{w:uG}:0<=(doE home owner qn qb w o).1/\(doE home owner qn qb w o).1<=100:=by
 have hw:0<=zC home o/\zC home o<=100:=by
  unfold zC
  split
  .omega
  .split
   .omega
   .split<;>omega
 have c1:∀ (st:St) p d o s,0<=(wt st p d o s).2.2/\(wt st p d o s).2.2<=100:=fun st p d o s=>by
  have h:(wt st p d o s).2.2∈[(20:Int),75,10,70,74,76,71,0]:=by
   unfold wt
   split
   .simp
   .split
    .simp
    .split
     .simp
     .split
      .simp
      .split
       .simp
       .split
        .simp
        .split
         .simp
         .split<;>simp
  simp only[List.mem_cons,List.not_mem_nil,or_false]at h
  omega
 have c2:∀ (st:St) p v,0<=(wL st p v).2/\(wL st p v).2<=100:=fun st p v=>by
  have h:(wL st p v).2∈[(20:Int),70,72,73,0]:=by
   unfold wL
   split
   .simp
   .split
    .simp
    .split
     .simp
     .split
      .simp
      .split<;>simp
  simp only[List.mem_cons,List.not_mem_nil,or_false]at h
  omega
 have c3:∀ (st:St) p d v,0<=(vW st p d v).2.2/\(vW st p d v).2.2<=100:=fun st p d v=>by
  have h:(vW st p d v).2.2∈[(20:Int),70,72,75,0]:=by
   unfold vW
   split
   .simp
   .split
    .simp
    .split
     .simp
     .split<;>simp
  simp only[List.mem_cons,List.not_mem_nil,or_false]at h
  omega
 have c4:∀ (st:St) p v,0<=afc st p v/\afc st p v<=100:=fun st p v=>by
  unfold afc
  split
  .omega
  .split<;>omega
 have hc:0<=(xf owner w.st o).2.2.2/\(xf owner w.st o).2.2.2<=100:=by
  unfold xf
  split
  .exact c1 _ _ _ _ _
  .split
   .exact c2 _ _ _
   .split
    .exact c3 _ _ _ _
    .exact c4 _ _ _
 unfold doE
 split
 .exact hw
 .split
  .exact hc
  .split
   .show(0:Int)<=81/\(81:Int)<=100;omega
   .show(0:Int)<=0/\(0:Int)<=100;omega
theorem aow:∀ {os:List MOp} {i:Nat} {w:uG} {x:Nat×Int},vg home owner qn qb os i w= .inl x->(0<=x.2/\x.2<=100)/\x.1<i+os.length:=by
 intro os
 induction os with
 | nil=>intro i w x h;cases h
 | cons o os ih=>
  intro i w x h
  unfold vg at h
  split at h
  .cases h;exact⟨ash,by simp⟩
  .obtain⟨h1,h2⟩:=ih h
   exact⟨h1,by simp only[List.length_cons];omega⟩
theorem aka{ops:List MOp}(h:ww b st)(hb:b<=4398046511000):
  ((∀y∈(qS st home owner qn qb ops).res,y.1.length<=128/\0<=y.2/\y.2<=4398046511104)/\(qS st home owner qn qb ops).res.length<=16)/\(0<=(qS st home owner qn qb ops).err/\(qS st home owner qn qb ops).err<=100)/\ -1<=(qS st home owner qn qb ops).bad/\(qS st home owner qn qb ops).bad<=16:=by
 unfold qS
 split
 .exact⟨⟨(fun y h=>by cases h),by simp⟩,by simp,by simp⟩
 .rename_i hl
  split
  .exact⟨⟨(fun y h=>by cases h),by simp⟩,by simp,by simp⟩
  .cases e:vg home owner qn qb ops 0 ⟨srt st,[],[]⟩with
   | inl x=>
    obtain⟨h1,h2⟩:=aow e
    exact⟨⟨(fun y h=>by cases h),by simp[abg]⟩,h1,by simp only[abg];omega,by simp only[abg];omega⟩
   | inr w=>
    obtain⟨h1,h2⟩:=am9 e (acC h) (by omega) (fun y h=>by cases h)
    refine⟨⟨h1,?_⟩,by simp[abg],by simp[abg],by simp[abg]⟩
    show w.res.length<=16
    rw[h2];simp;omega
theorem akQ{n:Nd}(h:ww b st)(hn:st.lookup p=some n):n.data.length<=256:=h.inv.data p n hn
theorem ana{ks:List Str}:∀ y∈jx ks p,y.length<=128:=fun y hy=>by
 unfold jx at hy
 obtain⟨k,_,hk⟩:=List.mem_filterMap.1 hy
 split at hk
 .unfold base at hk
  split at hk
  .rename_i ps e
   have:=(aa4 ((wd.1 e).2.ok y (List.mem_of_getLast? hk))).2
   omega
  .cases hk
 .cases hk
theorem amD(i:vE b s)(hb:b<=33554432):afx (doS s c).2:=by
 have z:afx Rep.zero:=⟨by simp[Rep.zero],(fun y h=>by cases h),(fun y h=>by cases h),(fun y h=>by cases h)⟩
 have fz:∀ e,afx (zh e):=fun e=>⟨by simp[zh,Rep.zero],(fun y h=>by cases h),(fun y h=>by cases h),(fun y h=>by cases h)⟩
 unfold doS
 split
 .exact z
 split
 .unfold afe
  have:=aka (home:=c.home) (owner:=c.session) (qn:=64) (qb:=8192) (ops:=c.ops) i.tree (by omega)
  exact⟨by simp[Rep.zero],fun y hy=>(this.1.1 y hy).1,(fun y h=>by cases h),(fun y h=>by cases h)⟩
 split
 .unfold adl
  split
  .exact fz _
  .split
   .exact fz _
   .simp only
    split
    .exact fz _
    .rename_i n hn
     exact⟨akQ i.tree hn,(fun y h=>by cases h),(fun y h=>by cases h),(fun y h=>by cases h)⟩
 split
 .unfold aaQ
  split
  .exact fz _
  .split
   .exact fz _
   .split
    .exact fz _
    .exact⟨by simp[Rep.zero],(fun y h=>by cases h),ana,(fun y h=>by cases h)⟩
 .exact z
theorem akR(i:vE b s)(hb:b<=33554432):vE (b+1) (doS s c).1:=by
 have i0:vE (b+1) s:=⟨i.tree.mono (by omega),i.tbl.mono (by omega),i.hub.mono (by omega),by have:=i.ep;omega,i.mem⟩
 unfold doS
 split
 .exact⟨i0.tree,aou i.tbl,i0.hub,i0.ep,i.mem⟩
 split
 .unfold afe
  exact⟨(aj3 i.tree (by omega)).mono (by omega),i0.tbl,ahc _ i0.hub,i0.ep,i.mem⟩
 split
 .unfold adl
  split
  .exact i0
  .split
   .exact i0
   .refine⟨i0.tree,i0.tbl,?_,i0.ep,i.mem⟩
    simp only
    split
    .exact amB i.hub
    .exact i0.hub
 split
 .unfold aaQ
  split
  .exact i0
  .split
   .exact i0
   .split
    .exact i0
    .refine⟨i0.tree,i0.tbl,?_,i0.ep,i.mem⟩
     simp only
     split
     .exact amB i.hub
     .exact i0.hub
 .exact i0
theorem akb(i:vE b s)(hb:b<=33554433):vE b (agh s k):=
 ⟨aot i.tree (by omega),i.tbl,ahc _ (amC i.hub),i.ep,i.mem⟩
theorem akc(i:vE b s)(hb:b<=33554432):vE (b+1) (vH s c).1:=by
 have i0:vE (b+1) s:=⟨i.tree.mono (by omega),i.tbl.mono (by omega),i.hub.mono (by omega),by have:=i.ep;omega,i.mem⟩
 unfold vH
 split
 .unfold abx
  split
  .exact i0
  .refine⟨?_,apC i.tbl,i0.hub,i0.ep,i.mem⟩
   simp only
   split
   .exact(ai5 i.tree (by omega)).mono (by omega)
   .exact i0.tree
 split
 .split
  .exact akb (b:=b+1) ⟨i0.tree,afW i0.tbl,i0.hub,i0.ep,i.mem⟩ (by omega)
  .exact i0
 split
 .unfold acS
  split
  .exact i0
  .rename_i hr
   split
   .exact i0
   .refine⟨i0.tree,i0.tbl,i0.hub,by have:=i.ep;simp only;omega,?_⟩
    unfold aae at hr
    simp only[Bool.not_eq_false,Bool.and_eq_true,decide_eq_true_eq]at hr
    exact hr.2
 split
 .unfold aaw
  split
  .exact i0
  split
  .exact i0
  have i1:vE b ({s with hub:=(afd s.hub c.key c.ack).1}:Sto):=⟨i.tree,i.tbl,agk i.hub,i.ep,i.mem⟩
  simp only
  split
  .exact akb (b:=b+1) ⟨i0.tree,ahb i0.tbl,agk i0.hub,i0.ep,i.mem⟩ (by omega)
  .have i2:=akR (c:=c) i1 hb
   exact⟨i2.tree,aqT i2.tbl (anM (amD i1 hb)),i2.hub,i2.ep,i2.mem⟩
 .exact i0
end Zt
namespace SL
open Go
variable{P:Program}{B:World}{ro I I':AH}{tag tag':Nat->Nat}
variable{β:Type}{s:Int}{kt:TypeId}{K:β->AH->Prop}
theorem alL{em:Bool}{f:Unit->Sem β}(hk:P.underlying kt=some (.int .i64))(h:awp P ro (f ()) K I):awp P ro (Sem.bind (Instr.checkKey em 10000 kt (.int .i64 s)) f) K I:=by
 rw[show(10000:Nat)=9999+1 from rfl]
 unfold Instr.checkKey
 simp only[qy]
 rw[bind_assoc',qw hk]
 exact h
theorem amE{l:List MapEntry}{r:Option (Nat×Value)}{f:Option (Nat×Value)->Sem β}(hk:P.underlying kt=some (.int .i64))(hr:Instr.findNow (.int .i64) (.int .i64 s) l 0=some r)(h:awp P ro (f r) K I):
  awp P ro (Sem.bind (Instr.findKey kt (.int .i64 s) l) f) K I:=by
 unfold Instr.findKey
 simp only[qy]
 rw[bind_assoc',qw hk]
 rw[hr]
 exact h
end SL
namespace SL
open Go
variable{P:Program}
variable{τ:AH}{n off:Nat}{k:Str×Int}{kt t:TypeId}
abbrev kS(k:Str):Value:= .string (S k)
abbrev kI(k:Int):Value:= .int .i64 k
abbrev kSI(k:Str×Int):Value:= .agg #[.string (S k.1),.int .i64 k.2]
theorem ai9{κ:Type}[DecidableEq κ]{enc:κ->Value}{d:TypeDesc}(hsame:∀ k k',Instr.sameNow d (enc k) (enc k')=some (decide (k=k')))(k:κ):∀ (l:List MapEntry) (m:List (κ×Value)) (i:Nat),l.map ub=m.map (adN enc)->Instr.findNow d (enc k) l i=some (ace k m i):=by
 intro l
 induction l with
 | nil=>intro m i h;cases m with
  | nil=>rfl
  | cons p m=>cases h
 | cons e l ih=>
  intro m i h
  cases m with
  | nil=>cases h
  | cons p m=>
   simp only[List.map_cons,List.cons.injEq]at h
   have hk:e.key=enc p.1:=congrArg Prod.fst h.1
   have hv:e.val=p.2:=congrArg Prod.snd h.1
   unfold Instr.findNow ace
   rw[hk,hsame,hv]
   by_cases c:k=p.1
   .rw[if_pos c,decide_eq_true c]
   .rw[if_neg c,decide_eq_false c]
    exact ih m (i+1) h.2
theorem ajt(hk:P.underlying kt=some .string):ajj P kt kS where
 check:=fun h=>ac2 hk h
 find:=fun{_ _ _ k l m f K} he h=>by
  refine uc hk (ai9 (enc:=kS) (fun k k'=>?_) k l m 0 he) h
  show some (S k == S k')=_
  rw[ajf];congr 1;rw[decide_eq_decide];exact ab9
 stays:=fun k=>by
  unfold Instr.keyThatStays
  rw[if_pos (by simp[Instr.sameBits,ajf])];try rfl
theorem akS(hk:P.underlying kt=some (.int .i64)):ajj P kt kI where
 check:=fun h=>alL hk h
 find:=fun{_ _ _ k l m f K} he h=>by
  refine amE hk (ai9 (enc:=kI) (fun k k'=>?_) k l m 0 he) h
  show(if IntKind.i64=IntKind.i64 then some (k == k')else none)=_
  rw[if_pos rfl];congr 1
 stays:=fun k=>by
  unfold Instr.keyThatStays
  rw[if_pos (by simp[Instr.sameBits])];try rfl
section
variable{ro:AH}
theorem wM{α β:Type}(s:Sem α)(f:α->Sem β){a:α}(h:qf P ro s τ=some a):qf P ro (Sem.bind s f) τ=qf P ro (f a) τ:=by
 induction s with
 | pure x=>cases h;rfl
 | load m x k ih=>
  simp only[qf]at h
  simp only[Sem.bind,qf]
  split at h
  .exact ih _ h
  .cases h
 | program k ih=>exact ih _ h
 | mark m k ih=>exact ih h
 | _=>cases h
structure SI(P:Program)(kt:TypeId):Prop where
 st:∃ n1 n2:Field,P.underlying kt=some (.struct #[n1,n2])/\P.underlying n1.type=some .string/\n1.offset=0/\P.underlying n2.type=some (.int .i64)/\n2.offset=1/\n1.name≠ "_" /\n2.name≠ "_"
 held:P.stoodInHeld kt=false
theorem aiC{cs:Array Value}{v:Value}(ht:P.underlying t=some .string\/P.underlying t=some (.int .i64))(hv:cs[off]?=some v):qf P ro (part t cs off) τ=some v:=by
 have hs:cs.getD off undef=v:=by simp[Array.getD_eq_getD_getElem?,hv]
 unfold part
 show qf P ro (Sem.bind (isAgg t) _) τ=_
 rcases ht with ht | ht
 .rw[ua ht];simp[hv];rfl
 .rw[ua ht];simp[hv];rfl
theorem as6{a b:ByteArray}(ht:P.underlying t=some .string):qf P ro (Op.equalIn (n+1) t (.string a) (.string b)) τ=some (decide (a=b)):=by
 unfold Op.equalIn
 show qf P ro (Sem.bind (underlying t) _) _=_
 rw[qC _ _ ht]
 show some (a == b)=_
 rw[ajf]
theorem as7{a b:Int}(ht:P.underlying t=some (.int .i64)):qf P ro (Op.equalIn (n+1) t (.int .i64 a) (.int .i64 b)) τ=some (decide (a=b)):=by
 unfold Op.equalIn
 show qf P ro (Sem.bind (underlying t) _) _=_
 rw[qC _ _ ht]
 show some (a == b)=_
 congr 1
theorem aug(hk:SI P kt){k':Str×Int}:qf P ro (Op.equalIn (9998+2) kt (kSI k) (kSI k')) τ=some (decide (k=k')):=by
 obtain⟨n1,n2,hu,h1,h2,h3,h4,h5,h6⟩:=hk.st
 unfold Op.equalIn
 show qf P ro (Sem.bind (underlying kt) _) _=_
 rw[qC _ _ hu]
 show qf P ro (if P.stoodInHeld kt=true then _ else _) τ=_
 rw[hk.held,if_neg (by simp)]
 show qf P ro (Sem.bind (forIn #[n1,n2] _ _) _) τ=_
 have p0:∀ {β:Type} (k:Str×Int) (f:Value->Sem β),qf P ro (part n1.type #[Value.string (S k.1),Value.int IntKind.i64 k.2] n1.offset >>= f) τ=qf P ro (f (.string (S k.1))) τ:=fun k f=>wM _ _ (aiC (.inl h1) (by rw[h2];try rfl))
 have p1:∀ {β:Type} (k:Str×Int) (f:Value->Sem β),qf P ro (part n2.type #[Value.string (S k.1),Value.int IntKind.i64 k.2] n2.offset >>= f) τ=qf P ro (f (.int .i64 k.2)) τ:=fun k f=>wM _ _ (aiC (.inr h3) (by rw[h4];try rfl))
 have q0:∀ {β:Type} (f:Bool->Sem β),qf P ro (Op.equalIn 9999 n1.type (.string (S k.1)) (.string (S k'.1)) >>= f) τ=qf P ro (f (decide (S k.1=S k'.1))) τ:=fun f=>wM _ _ (as6 (n:=9998) h1)
 have q1:∀ {β:Type} (f:Bool->Sem β),qf P ro (Op.equalIn 9999 n2.type (.int .i64 k.2) (.int .i64 k'.2) >>= f) τ=qf P ro (f (decide (k.2=k'.2))) τ:=fun f=>wM _ _ (as7 (n:=9998) h3)
 obtain⟨k1,k2⟩:=k
 obtain⟨m1,m2⟩:=k'
 rw[<-Array.forIn_toList]
 show qf P ro (Sem.bind (forIn [n1,n2] _ _) _) τ=_
 by_cases c1:k1=m1
 .by_cases c2:k2=m2
  .rw[decide_eq_true (by rw[c1,c2])]
   refine(wM _ _ (a:=((none,()):Option Bool×Unit)) ?_).trans rfl
   rw[List.forIn_cons]
   refine(wM _ _ (a:= .yield ((none,()):Option Bool×Unit)) ?_).trans ?_
   .rw[if_pos h5,p0,p0,q0,decide_eq_true (by rw[c1])];try rfl
   .show qf P ro (forIn [n2] _ _) τ=_
    rw[List.forIn_cons]
    refine(wM _ _ (a:= .yield ((none,()):Option Bool×Unit)) ?_).trans ?_
    .rw[if_pos h6,p1,p1,q1,decide_eq_true c2];try rfl
    .rfl
  .rw[decide_eq_false (by rintro h;cases h;exact c2 rfl)]
   refine(wM _ _ (a:=((some false,()):Option Bool×Unit)) ?_).trans rfl
   rw[List.forIn_cons]
   refine(wM _ _ (a:= .yield ((none,()):Option Bool×Unit)) ?_).trans ?_
   .rw[if_pos h5,p0,p0,q0,decide_eq_true (by rw[c1])];try rfl
   .show qf P ro (forIn [n2] _ _) τ=_
    rw[List.forIn_cons]
    refine(wM _ _ (a:= .done ((some false,()):Option Bool×Unit)) ?_).trans ?_
    .rw[if_pos h6,p1,p1,q1,decide_eq_false c2];try rfl
    .rfl
 .rw[decide_eq_false (by rintro h;cases h;exact c1 rfl)]
  refine(wM _ _ (a:=((some false,()):Option Bool×Unit)) ?_).trans rfl
  rw[List.forIn_cons]
  refine(wM _ _ (a:= .done ((some false,()):Option Bool×Unit)) ?_).trans ?_
  .rw[if_pos h5,p0,p0,q0,decide_eq_false (by rw[ab9];exact c1)];rfl
  .rfl
theorem asi(hk:SI P kt){em:Bool}:qf P ro (Instr.checkKey em (9998+2) kt (kSI k)) τ=some ():=by
 obtain⟨n1,n2,hu,h1,h2,h3,h4,h5,h6⟩:=hk.st
 unfold Instr.checkKey
 show qf P ro (Sem.bind (underlying kt) _) _=_
 rw[qC _ _ hu]
 show qf P ro (Sem.bind (forIn #[n1,n2] _ _) _) τ=_
 have p0:∀ {β:Type} (f:Value->Sem β),qf P ro (part n1.type #[Value.string (S k.1),Value.int IntKind.i64 k.2] n1.offset >>= f) τ=qf P ro (f (.string (S k.1))) τ:=fun f=>wM _ _ (aiC (.inl h1) (by rw[h2];try rfl))
 have p1:∀ {β:Type} (f:Value->Sem β),qf P ro (part n2.type #[Value.string (S k.1),Value.int IntKind.i64 k.2] n2.offset >>= f) τ=qf P ro (f (.int .i64 k.2)) τ:=fun f=>wM _ _ (aiC (.inr h3) (by rw[h4];try rfl))
 have c0:∀ {β:Type} (f:Unit->Sem β),qf P ro (Instr.checkKey em 9999 n1.type (.string (S k.1)) >>= f) τ=qf P ro (f ()) τ:=fun f=>wM _ _ (by
  rw[show(9999:Nat)=9998+1 from rfl];unfold Instr.checkKey
  show qf P ro (Sem.bind (underlying n1.type) _) _=_
  rw[qC _ _ h1];try rfl)
 have c1:∀ {β:Type} (f:Unit->Sem β),qf P ro (Instr.checkKey em 9999 n2.type (.int .i64 k.2) >>= f) τ=qf P ro (f ()) τ:=fun f=>wM _ _ (by
  rw[show(9999:Nat)=9998+1 from rfl];unfold Instr.checkKey
  show qf P ro (Sem.bind (underlying n2.type) _) _=_
  rw[qC _ _ h3];try rfl)
 refine(wM _ _ (a:=()) ?_).trans rfl
 rw[<-Array.forIn_toList]
 show qf P ro (forIn [n1,n2] _ _) τ=_
 rw[List.forIn_cons]
 refine(wM _ _ (a:= .yield ()) ?_).trans ?_
 .rw[if_pos h5,p0,c0];try rfl
 .show qf P ro (forIn [n2] _ _) τ=_
  rw[List.forIn_cons]
  refine(wM _ _ (a:= .yield ()) ?_).trans ?_
  .rw[if_pos h6,p1,c1];try rfl
  .rfl
theorem atU(hk:SI P kt)(k:Str×Int):∀ (l:List MapEntry) (m:List ((Str×Int)×Value)) (i:Nat),l.map ub=m.map (adN kSI)->qf P ro (Instr.findAsking kt (kSI k) l i) τ=some (ace k m i):=by
 intro l
 induction l with
 | nil=>intro m i h;cases m with
  | nil=>rfl
  | cons p m=>cases h
 | cons e l ih=>
  intro m i h
  cases m with
  | nil=>cases h
  | cons p m=>
   simp only[List.map_cons,List.cons.injEq]at h
   have h1:e.key=kSI p.1:=congrArg Prod.fst h.1
   have hv:e.val=p.2:=congrArg Prod.snd h.1
   unfold Instr.findAsking ace
   rw[h1,hv]
   show qf P ro (Sem.bind (Op.equal kt (kSI k) (kSI p.1)) _) τ=_
   refine(wM _ _ (a:=decide (k=p.1)) (by unfold Op.equal Op.maxDepth;exact aug hk)).trans ?_
   by_cases c:k=p.1
   .rw[decide_eq_true c,if_pos rfl,if_pos c];try rfl
   .rw[decide_eq_false c,if_neg (by simp),if_neg c]
    exact ih m (i+1) h.2
end
theorem adn(hk:SI P kt):ajj P kt kSI where
 check:=fun{ro I _ em k f K} h=>by
  show awp P ro (_ >>= f) K I
  rw[vA]
  exact aeS _ (asi hk) h
 find:=fun{ro I _ k l m f K} he h=>by
  show awp P ro (_ >>= f) K I
  rw[vA]
  refine aeS _ (a:=ace k m 0) ?_ h
  obtain⟨n1,n2,hu,_⟩:=hk.st
  unfold Instr.findKey
  show qf P ro (Sem.bind (underlying kt) _) _=_
  rw[qC _ _ hu]
  cases l with
  | nil=>cases m with
   | nil=>rfl
   | cons p m=>cases he
  | cons e l=>
   have hn:Instr.findNow (.struct #[n1,n2]) (kSI k) (e::l) 0=none:=rfl
   rw[hn]
   exact atU hk k _ m 0 he
 stays:=fun k=>by
  unfold Instr.keyThatStays
  rw[if_pos (by simp[Instr.sameBits,ajf])];try rfl
end SL
namespace Zt
open Go SL G Pa Wi
variable{B:World}{ro I I':AH}{tag tag':Nat->Nat}
variable{h:Hub}{bs:List Nat}{M T b c:Nat}{home:Str}{k:Str×Int}{t:Tbl}{d:jR}
def pr(b c:Nat):Nat:=(b+c)*(b+c)+b
theorem apF{b' c':Nat}(h:pr b c=pr b' c'):b=b'/\c=c':=by
 unfold pr at h
 have key:∀ s s' x x':Nat,x<=s->x'<=s'->s*s+x=s'*s'+x'->¬ s<s':=fun s s' x x' h1 h2 h3 h4=>by
  have:(s+1)*(s+1)<=s'*s':=Nat.mul_le_mul h4 h4
  have e:(s+1)*(s+1)=s*s+2*s+1:=by rw[Nat.add_mul,Nat.mul_add];omega
  omega
 have h1:=key _ _ _ _ (by omega:b<=b+c) (by omega:b'<=b'+c') h
 have h2:=key _ _ _ _ (by omega:b'<=b'+c') (by omega:b<=b+c) h.symm
 have e:b+c=b'+c':=by omega
 rw[e]at h
 omega
def aea(tag:Nat->Nat)(I:AH)(b:Nat)(home:Str)(c:Nat)(n:Int)(s:jQ):Prop:=
 ∃d:Sl,Row tag I (58+64*(pr b c+2)) 83 ⟨some ⟨c,0,none⟩,7,7⟩ [Pa.vS home,vI n,vI s.nonce,vI s.lease,vI s.beats,vI s.req,Sl.v d]/\Row tag I 6 5 d (s.reply.map vU)
def yN(tag:Nat->Nat)(I:AH)(b:Nat)(home:Str)(h:kW):Prop:=
 ∃m cs,Row tag I (56+64*(b+2)) 254 ⟨some ⟨b,0,none⟩,2,2⟩ [vI h.last,.map (some m)]/\ym kI (aea tag I b home) tag I (57+64*(b+2)) m cs h.live
structure wZ(tag:Nat->Nat)(I:AH)(T M:Nat)(bs:List Nat)(t:Tbl):Prop where
 cell:Row tag I 55 242 ⟨some ⟨T,0,none⟩,1,1⟩ [.map (some M)]
 map:ym kS (yN tag I) tag I 119 M bs t
def ahd(tag:Nat->Nat)(I:AH)(T:Nat)(t:Tbl):Prop:= ∃M bs,wZ tag I T M bs t
def evV(e:Int×Int×Str):List Value:=[vI e.1,vI e.2.1,Pa.vS e.2.2]
def jS(tag:Nat->Nat)(I:AH)(b:Nat)(k:Str×Int)(d:jR):Prop:=
 ∃m s,Row tag I (59+64*(b+2)) 310 ⟨some ⟨b,0,none⟩,4,4⟩ [Sl.v s,vI d.acked,vI d.last,.map (some m)]/\qq tag I (61+64*(b+2)) 132 3 s (d.events.map evV)/\zY kSI tag I (60+64*(b+2)) m (d.marks.map fun k=>(k,vI 1))
structure za(tag:Nat->Nat)(I:AH)(T M:Nat)(bs:List Nat)(h:Hub):Prop where
 cell:Row tag I 62 245 ⟨some ⟨T,0,none⟩,1,1⟩ [.map (some M)]
 map:ym kSI (jS tag I) tag I 126 M bs h
def aiD(tag:Nat->Nat)(I:AH)(T:Nat)(h:Hub):Prop:= ∃M bs,za tag I T M bs h
section
variable{R C:List Nat}
theorem aea.keep{n:Int}{s:jQ}(h:aea tag I b home c n s)(k:qe R ro tag I tag' I')(h1:58+64*(pr b c+2)∉R:=by simp)(h6:6∉R:=by simp):aea tag' I' b home c n s:=by
 obtain⟨d,a,e⟩:=h
 exact⟨d,a.keep k h1,e.keep k h6⟩
theorem yN.keep{h:kW}(i:yN tag I b home h)(k:qe R ro tag I tag' I')(h1:∀ x∈R,x%64=56->x≠56+64*(b+2):=by simp)(h2:∀ x∈R,x%64=57->x≠57+64*(b+2):=by simp)(h3:∀ c,58+64*(pr b c+2)∉R:=by simp)(h6:6∉R:=by simp):yN tag' I' b home h:=by
 obtain⟨m,cs,a,e⟩:=i
 exact⟨m,cs,a.keep k fun hm=>h1 _ hm (by omega) rfl,e.mono (e.map.keep k fun hm=>h2 _ hm (by omega) rfl) fun i c n s _ _ hs=>hs.keep k (h3 c) h6⟩
theorem yN.keepS{h:kW}(i:yN tag I b home h)(k:StepS C ro tag I tag' I')(hC:56∉C/\57∉C/\58∉C/\6∉C:=by decide):yN tag' I' b home h:=by
 obtain⟨R,hR,k⟩:=k
 refine i.keep k (fun x hx e=>?_) (fun x hx e=>?_) (fun c hx=>?_) fun hx=>?_
 .have:=hR x hx;rw[e]at this;exact absurd this hC.1
 .have:=hR x hx;rw[e]at this;exact absurd this hC.2.1
 .have:=hR _ hx;rw[show(58+64*(pr b c+2))%64=58 by omega]at this;exact hC.2.2.1 this
 .exact hC.2.2.2 (hR _ hx)
theorem wZ.keepS(i:wZ tag I T M bs t)(k:StepS C ro tag I tag' I')(hC:55∉C/\56∉C/\57∉C/\58∉C/\6∉C:=by decide):wZ tag' I' T M bs t:=
 ⟨i.cell.keepS k hC.1,i.map.mono (i.map.map.keepS k hC.1) fun _ b k' h _ _ hh=>hh.keepS k hC.2⟩
theorem ahd.keepS(i:ahd tag I T t)(k:StepS C ro tag I tag' I')(hC:55∉C/\56∉C/\57∉C/\58∉C/\6∉C:=by decide):ahd tag' I' T t:=by
 obtain⟨M,bs,i⟩:=i
 exact⟨M,bs,i.keepS k hC⟩
theorem jS.keep(i:jS tag I b k d)(st:qe R ro tag I tag' I')(h1:59+64*(b+2)∉R:=by simp)(h2:60+64*(b+2)∉R:=by simp)(h3:61+64*(b+2)∉R:=by simp):jS tag' I' b k d:=by
 obtain⟨m,s,a,e,f⟩:=i
 exact⟨m,s,a.keep st h1,e.keep st h3,f.keep st h2⟩
theorem jS.keepS(i:jS tag I b k d)(st:StepS C ro tag I tag' I')(hC:59∉C/\60∉C/\61∉C:=by decide):jS tag' I' b k d:=by
 obtain⟨R,hR,st⟩:=st
 refine i.keep st (fun hx=>?_) (fun hx=>?_) fun hx=>?_
 .have:=hR _ hx;rw[show(59+64*(b+2))%64=59 by omega]at this;exact hC.1 this
 .have:=hR _ hx;rw[show(60+64*(b+2))%64=60 by omega]at this;exact hC.2.1 this
 .have:=hR _ hx;rw[show(61+64*(b+2))%64=61 by omega]at this;exact hC.2.2 this
theorem za.keepS(i:za tag I T M bs h)(st:StepS C ro tag I tag' I')(hC:62∉C/\59∉C/\60∉C/\61∉C:=by decide):za tag' I' T M bs h:=
 ⟨i.cell.keepS st hC.1,i.map.mono (i.map.map.keepS st hC.1) fun _ b k' d _ _ hh=>hh.keepS st hC.2⟩
theorem aiD.keepS(i:aiD tag I T h)(st:StepS C ro tag I tag' I')(hC:62∉C/\59∉C/\60∉C/\61∉C:=by decide):aiD tag' I' T h:=by
 obtain⟨M,bs,i⟩:=i
 exact⟨M,bs,i.keepS st hC⟩
end
def yz(tag:Nat->Nat)(I:AH)(W:Nat)(s:Sto):Prop:= ∃(T Tt Th:Nat) (ms:Sl),
 Row tag I 54 153 ⟨some ⟨W,0,none⟩,5,5⟩ [vI s.epoch,Sl.v ms,ptr T,ptr Tt,ptr Th]/\Row tag I 118 3 ms (s.members.map vI)/\wa tag I 10 T s.tree/\ahd tag I Tt s.tbl/\aiD tag I Th s.hub
end Zt
namespace Zt
open Go SL G Pa Wi
variable{B:World}{ro I I':AH}{tag tag':Nat->Nat}
variable{kind:Int}{ks:List (Str×Int)}{R:List Nat}{b i:Nat}{k:Str×Int}{d:jR}{m:xP}
abbrev rD(b:Nat):Nat:=59+64*(b+2)
abbrev rM(b:Nat):Nat:=60+64*(b+2)
abbrev rE(b:Nat):Nat:=61+64*(b+2)
structure afh(b:Nat)(R:List Nat):Prop where
 r62:62∉R
 r126:126∉R
 r59:∀ x∈R,x%64=59->x=rD b
 r60:∀ x∈R,x%64=60->x=rM b
 r61:∀ x∈R,x%64=61->x=rE b
theorem jS.other{b':Nat}(i:jS tag I b' k d)(st:qe R ro tag I tag' I')(hR:afh b R)(hne:b'≠b):jS tag' I' b' k d:=by
 refine i.keep st (fun hx=>?_) (fun hx=>?_) fun hx=>?_
 .have:=hR.r59 _ hx (by omega);unfold rD at this;omega
 .have:=hR.r60 _ hx (by omega);unfold rM at this;omega
 .have:=hR.r61 _ hx (by omega);unfold rE at this;omega
section
variable{T M:Nat}{bs:List Nat}{h:Hub}
theorem za.old{d':jR}(hi:za tag I T M bs h)(st:qe R ro tag I tag' I')(hR:afh b R)(hb:bs[i]?=some b)(hp:h[i]?=some (k,d))(hn:jS tag' I' b k d'):za tag' I' T M bs (wD h k d'):=
 ⟨hi.cell.keep st hR.r62,hi.map.write hb hp (hi.map.map.keep st hR.r126) hn fun b' k' x hb' _ hA=>hA.other st hR hb'⟩
theorem za.new{tag2:Nat->Nat}{I2:AH}(hi:za tag I T M bs h)(hk:qI h k=none)(st:qe R ro tag I tag' I')(hR:afh b R)(hnb:b∉bs)(hn:jS tag' I' b k d)(st2:qe [126] ro tag' I' tag2 I2)(hm:zY kSI tag2 I2 126 M (wD (kvP h bs) k (aeo b))):za tag2 I2 T M (bs++[b]) (wD h k d):=
 ⟨(hi.cell.keep st hR.r62).keep st2,hi.map.add hk hm hnb (hn.keepS (st2.s (C:=[62]) (by simp))) fun i b' k' x hb' _ hA=>(hA.other st hR fun e=>hnb (by rw[<-e];exact List.mem_of_getElem? hb')).keepS (st2.s (C:=[62]) (by simp))⟩
theorem za.gone(hi:za tag I T M bs h)(st:qe [126] ro tag I tag' I')(hm:zY kSI tag' I' 126 M (jN (kvP h bs) k)):∃ bs',za tag' I' T M bs' (jN h k):=by
 have kp:∀ b' k' x,jS tag I b' k' x->jS tag' I' b' k' x:=fun b' k' x hx=>hx.keepS (st.s (C:=[62]) (by simp))
 rcases hi.map.look k with⟨g1,g2⟩ | ⟨i,b,d,hb,hp,g3,g4,hA⟩
 .rw[alc g1]
  rw[alc g2]at hm
  exact⟨bs,hi.cell.keep st,hi.map.mono hm fun i b k' a _ _=>kp b k' a⟩
 .exact⟨bs.eraseIdx i,hi.cell.keep st,hi.map.del hb hp hm kp⟩
end
theorem jS.own(h:jS tag I b k d):∃ o,I b=some o:=by
 obtain⟨m,s,a,_⟩:=h
 exact a.tagOf.2
abbrev mk1(l:List xP):List (xP×Value):=l.map fun k=>(k,vI 1)
theorem amF(l:List xP)(m:xP):qI (mk1 l) m=if m∈l then some (vI 1)else none:=by
 induction l with
 | nil=>rfl
 | cons x l ih=>
  show(if m=x then some (vI 1)else qI (mk1 l) m)=_
  by_cases c:m=x
  .rw[if_pos c,if_pos (by simp[c])]
  .rw[if_neg c,ih]
   by_cases d:m∈l
   .rw[if_pos d,if_pos (by simp[d])]
   .rw[if_neg d,if_neg (by simp[c,d])]
theorem asj(l:List xP)(m:xP):jN (mk1 l) m=mk1 (l.erase m):=by
 induction l with
 | nil=>rfl
 | cons x l ih=>
  show(if m=x then mk1 l else(x,vI 1)::jN (mk1 l) m)=_
  by_cases c:m=x
  .rw[if_pos c,c,List.erase_cons_head]
  .rw[if_neg c,ih,List.erase_cons_tail (by simpa using fun e=>c e.symm)];try rfl
theorem ask(l:List xP)(m:xP):wD (mk1 l) m (vI 1)=mk1 (if m∈l then l else l++[m]):=by
 induction l with
 | nil=>rfl
 | cons x l ih=>
  show(if m=x then(m,vI 1)::mk1 l else(x,vI 1)::wD (mk1 l) m (vI 1))=_
  by_cases c:m=x
  .rw[if_pos c,if_pos (by simp[c]),c];try rfl
  .rw[if_neg c,ih]
   by_cases d:m∈l
   .rw[if_pos d,if_pos (by simp[d])];try rfl
   .rw[if_neg d,if_neg (by simp[c,d])];try rfl
def xQ(h:Hub)(m:xP)(kind:Int)(ks:List (Str×Int)):Hub:=h.map fun p=>if p.1∈ks then(p.1,aeK m kind p.2)else p
theorem aox(h:Hub)(m:xP)(kind:Int):xQ h m kind []=h:=by unfold xQ;simp
theorem aoy{h:Hub}(hk:∀ p∈h,p.1∈ks):xQ h m kind ks=px h m kind:=by
 unfold xQ px
 refine List.map_congr_left fun p hp=>?_
 rw[if_pos (hk p hp)]
theorem ahe{h:Hub}(hp:h[i]?=some (k,d))(hk:k∉ks):(xQ h m kind ks)[i]?=some (k,d):=by
 unfold xQ
 rw[List.getElem?_map,hp]
 simp[hk]
theorem aoz{h:Hub}(hn:(h.map (·.1)).Nodup)(hp:h[i]?=some (k,d))(hk:k∉ks):wD (xQ h m kind ks) k (aeK m kind d)=xQ h m kind (ks++[k]):=by
 have hn':((xQ h m kind ks).map (·.1)).Nodup:=by
  have:(xQ h m kind ks).map (·.1)=h.map (·.1):=by
   unfold xQ
   rw[List.map_map]
   refine List.map_congr_left fun p _=>?_
   simp only[Function.comp]
   split<;>rfl
  rw[this];exact hn
 rw[ae7 _ hn' (ahe hp hk)]
 apply List.ext_getElem?
 intro j
 rw[List.getElem?_set]
 by_cases c:i=j
 .subst c
  have hil:i<(xQ h m kind ks).length:=(List.getElem?_eq_some_iff.1 (ahe hp hk)).1
  rw[if_pos rfl,if_pos hil]
  unfold xQ
  rw[List.getElem?_map,hp]
  simp
 .rw[if_neg c]
  unfold xQ
  rw[List.getElem?_map,List.getElem?_map]
  cases e:h[j]? with
  | none=>rfl
  | some q=>
   have hq:q.1≠k:=fun e'=>c (acu hn (i:=i) (j:=j) (x:=k) (by rw[List.getElem?_map,hp];try rfl) (by rw[List.getElem?_map,e];simp[e']))
   simp[hq]
theorem anb{h:Hub}(hn:(h.map (·.1)).Nodup)(hp:h[i]?=some (k,d))(hk:k∉ks)(hm:m∉d.marks):xQ h m kind (ks++[k])=xQ h m kind ks:=by
 unfold xQ
 refine List.map_congr_left fun p hpm=>?_
 by_cases c:p.1=k
 .have:p=(k,d):=by
   obtain⟨j,hj,e⟩:=List.getElem_of_mem hpm
   have hj':h[j]?=some p:=by rw[List.getElem?_eq_getElem hj,e]
   have:i=j:=acu hn (i:=i) (j:=j) (x:=k) (by rw[List.getElem?_map,hp];try rfl) (by rw[List.getElem?_map,hj'];simp[c])
   subst this
   rw[hp]at hj';cases hj';rfl
  subst this
  simp only[List.mem_append,List.mem_singleton,or_true,if_true]
  rw[if_neg hk]
  unfold aeK
  rw[if_neg hm]
 .simp[c]
end Zt
namespace SL
open Go
variable{P:Program}{B:World}{ro I I':AH}{tag tag':Nat->Nat}
variable{K:AH->Prop}{l:List (List Value)}{b j m n r w:Nat}{s:Sl}{e:TypeId}
theorem qq.stF(ha:s.a=some ⟨b,0,none⟩):∀ (vs:List Value) (i:Nat) (l:List (List Value)) (y:List Value) (I:AH),qq tag I r e w s l->l[j]?=some y->Sep ro I->i+vs.length<=w->(∀v∈vs,qh v=true)->
  (∀I',qe [r] ro tag I tag I'->qq tag I' r e w s (l.set j (y.take i++vs++y.drop (i+vs.length)))->K I')->stN ⟨b,j*w,none⟩ K vs i I:=by
 intro vs
 induction vs with
 | nil=>
  intro i l y I h hj hs _ _ hK
  refine hK I (qe.refl hs) ?_
  have:l.set j (y.take i++[]++y.drop (i+([]:List Value).length))=l:=by
   have hjl:j<l.length:=(List.getElem?_eq_some_iff.1 hj).1
   rw[List.append_nil,List.length_nil,Nat.add_zero,List.take_append_drop]
   have:=(List.getElem?_eq_some_iff.1 hj).2
   rw[<-this];exact List.set_getElem_self hjl
  rw[this];exact h
 | cons v vs ih=>
  intro i l y I h hj hs hl hv hK
  simp only[List.length_cons]at hl
  have hyl:y.length=w:=h.wide y (List.mem_of_getElem? hj)
  have hjl:j<l.length:=(List.getElem?_eq_some_iff.1 hj).1
  have h1:=qq.st (v:=v) (i:=i) (K:=stN ⟨b,j*w,none⟩ K vs (i+1)) h hs ha hj (by omega) (hv v (by simp)) fun I1 st1 h1=>?_
  .unfold stN at h1
   have e:(⟨b,j*w+i,none⟩:Addr).add 0=(⟨b,j*w,none⟩:Addr).add i:=by simp[Addr.add]
   rw[e]at h1
   unfold stN
   exact h1
  .refine ih (i+1) (l.set j (y.set i v)) (y.set i v) I1 h1 (by rw[List.getElem?_set_self hjl]) st1.sep (by omega) (fun u hu=>hv u (by simp[hu])) fun I2 st2 h2=>?_
   refine hK I2 (st1.trans st2) ?_
   have e1:(y.set i v).take (i+1)=y.take i++[v]:=by
    rw[List.take_add_one,List.take_set_of_le (Nat.le_refl _),List.getElem?_set_self (by omega)];try rfl
   have e2:(y.set i v).drop (i+1+vs.length)=y.drop (i+(v::vs).length):=by
    rw[List.drop_set_of_lt (by omega)];congr 1;simp;omega
   rw[e1,e2,List.set_set]at h2
   simpa using h2
theorem qq.stE{x y:List Value}(h:qq tag I r e w s l)(hs:Sep ro I)(ha:s.a=some ⟨b,0,none⟩)(hj:l[j]?=some y)(hx:x.length=w)(hv:∀ v∈x,qh v=true)
  (hK:∀ I',qe [r] ro tag I tag I'->qq tag I' r e w s (l.set j x)->K I'):stN ((⟨b,0,none⟩:Addr).add (j*w)) K x 0 I:=by
 have hyl:y.length=w:=h.wide y (List.mem_of_getElem? hj)
 have:=qq.stF (K:=K) ha x 0 l y I h hj hs (by omega) hv fun I' st h'=>hK I' st (by
  rw[List.take_zero,Nat.zero_add,List.drop_of_length_le (by omega)]at h'
  simpa using h')
 rw[vn,Nat.zero_add];exact this
theorem qq.take(h:qq tag I r e w s l)(hm:m<=l.length):qq tag I r e w ⟨s.a,m,s.cap⟩ (l.take m):=by
 rcases h with⟨rfl,rfl⟩ | ⟨b,cs,ha,ht,hb,hln,hc,hle,hw,hg⟩
 .simp at hm;subst hm;exact .inl ⟨rfl,rfl⟩
 .refine .inr ⟨b,cs,ha,ht,hb,by simp;omega,hc,by simp only;omega,fun x hx=>hw x (List.mem_of_mem_take hx),fun i v hv=>?_⟩
  refine hg i v ?_
  have e1:l.flatten=(l.take m).flatten++(l.drop m).flatten:=by rw[<-List.flatten_append,List.take_append_drop]
  rw[e1]
  have hi:i<(l.take m).flatten.length:=(List.getElem?_eq_some_iff.1 hv).1
  rw[List.getElem?_append_left hi];exact hv
theorem alM{zs:Array Value}:(Builtin.zeroCells zs n).size=n*zs.size/\∀ v∈(Builtin.zeroCells zs n).toList,v∈zs.toList:=by
 constructor
 .simp[Builtin.zeroCells]
 .intro v hv
  simp only[Builtin.zeroCells,Array.mem_toList_iff,Array.mem_map]at hv
  obtain⟨i,hi,rfl⟩:=hv
  have hi':i<n*zs.size:=by simpa using hi
  have h0:0<zs.size:=by
   rcases Nat.eq_zero_or_pos zs.size with h | h
   .rw[h]at hi';omega
   .exact h
  rw[getElem!_pos zs _ (Nat.mod_lt _ h0)]
  simp
theorem akT{r t ty:TypeId}{bytes:Nat}{zv:Value}{Q:Value->AH->Prop}(h:qq tag I r e w s l)(hs:Sep ro I)(ht:P.underlying t=some (.slice e))(hz:qp P e zv w bytes)(hzc:zv.cells.size=w)(hv:∀ v∈zv.cells.toList,qh v=true)(hw0:0<w)
  (hm:m<=l.length) (hQ:∀ I',qe [r] ro tag I tag I'->qq tag I' r e w ⟨s.a,m,s.cap⟩ (l.take m)->Q (.tuple #[]) I'):
  awp P ro (Builtin.clear_ #[t] ty #[Sl.v (⟨wu s.a m s.cap w,s.len - m,s.cap - m⟩:Sl)]) Q I:=by
 have g0:(#[t]:Array TypeId)[0]?=some t:=rfl
 have g1:(#[Value.slice (wu s.a m s.cap w) (s.len - m) (s.cap - m)]:Array Value)[0]?=some (Value.slice (wu s.a m s.cap w) (s.len - m) (s.cap - m)):=rfl
 have hl:=h.len
 unfold Builtin.clear_
 simp only[Sl.v,qy,qV,g0,g1]
 rw[qw ht]
 rcases Nat.eq_zero_or_pos (s.len - m)with h0 | h0
 .have hd:=hQ I (qe.refl hs) (h.take hm)
  rw[h0]
  cases hc:wu s.a m s.cap w with
  | none=>exact hd
  | some a=>exact hd
 .have htk:=h.take hm
  rcases h with⟨rfl,rfl⟩ | ⟨b,cs,ha,htg,hbk,hln,hcp,hle,hw,hg⟩
  .simp at h0
  .have hcut:wu s.a m s.cap w=some ⟨b,m*w,none⟩:=by
    unfold wu
    rw[if_neg (by omega),ha]
    simp[vn]
   rw[hcut]
   obtain⟨k,hk⟩:∃ k,s.len - m=k+1:=⟨s.len - m - 1,by omega⟩
   rw[hk]
   simp only
   rw[aaW hz]
   refine(vA _ _).2 ?_
   obtain⟨z1,z2⟩:=alM (zs:=zv.cells) (n:=k+1)
   have hbound:m*w+(k+1)*w<=cs.size:=by
    rw[hcp,<-Nat.add_mul]
    exact Nat.mul_le_mul_right _ (by omega)
   refine jt (Builtin.zeroCells zv.cells (k+1)).toList 0 I (aeP (Builtin.zeroCells zv.cells (k+1)).toList cs 0 I hbk (by rw[Array.length_toList,z1,hzc];omega) (fun v hvm=>?_) fun cs' c1 c2 c3=>?_)
   .exact hv v (z2 v hvm)
   refine hQ _ (kh hs htg hbk) ?_
   refine .inr ⟨b,cs',ha,htg,qE _ _ _,by simp;omega,by rw[c1];exact hcp,by simp;omega,fun x hx=>hw x (List.mem_of_mem_take hx),fun i v hi=>?_⟩
   have hil:i<m*w:=by
    have:=(List.getElem?_eq_some_iff.1 hi).1
    rw[yW (w:=w) fun x hx=>hw x (List.mem_of_mem_take hx),List.length_take,Nat.min_eq_left hm]at this
    exact this
   rw[c2 i (by omega)]
   rcases htk with⟨_,e2⟩ | ⟨b',cs2,ha2,_,hb2,_,_,_,_,hg2⟩
   .rw[e2]at hi;cases hi
   .simp only at ha2
    rw[ha]at ha2;cases ha2
    rw[hbk]at hb2;cases hb2
    exact hg2 i v hi
end SL
namespace Zt
open Go SL G Pa Wi
variable{B:World}{ro I I':AH}{tag tag':Nat->Nat}
variable{n:Int}{R cs:List Nat}{b c i j m:Nat}{home:Str}{s:jQ}{h:kW}
abbrev rH(b:Nat):Nat:=56+64*(b+2)
abbrev rL(b:Nat):Nat:=57+64*(b+2)
abbrev rS(b c:Nat):Nat:=58+64*(pr b c+2)
structure agl(b:Nat)(R:List Nat):Prop where
 r6:6∉R
 r55:55∉R
 r119:119∉R
 r56:∀ x∈R,x%64=56->x=rH b
 r57:∀ x∈R,x%64=57->x=rL b
 r58:∀ x∈R,x%64=58->∃ c,x=rS b c
theorem yN.other{b':Nat}(i:yN tag I b' home h)(k:qe R ro tag I tag' I')(hR:agl b R)(hne:b'≠b):yN tag' I' b' home h:=by
 refine i.keep k (fun x hx e e'=>?_) (fun x hx e e'=>?_) (fun c hx=>?_) hR.r6
 .have:=hR.r56 x hx e;unfold rH at this;omega
 .have:=hR.r57 x hx e;unfold rL at this;omega
 .obtain⟨c',e⟩:=hR.r58 _ hx (by omega)
  unfold rS at e
  exact hne (apF (b:=b') (c:=c) (b':=b) (c':=c') (by omega)).1
section
variable{T M:Nat}{bs:List Nat}{t:Tbl}
theorem wZ.old{x x':kW}(h:wZ tag I T M bs t)(k:qe R ro tag I tag' I')(hR:agl b R)(hb:bs[i]?=some b)(hp:t[i]?=some (home,x))(hn:yN tag' I' b home x'):wZ tag' I' T M bs (wD t home x'):=
 ⟨h.cell.keep k hR.r55,h.map.write hb hp (h.map.map.keep k hR.r119) hn fun b' k' x hb' _ hA=>hA.other k hR hb'⟩
structure aaf(tag:Nat->Nat)(I:AH)(bs:List Nat)(t:Tbl)(home:Str)(n:Int)(i b:Nat)(h:kW)(m:Nat)(cs:List Nat)(j c:Nat)(s:jQ):Prop where
 hb:bs[i]?=some b
 hp:t[i]?=some (home,h)
 row:Row tag I (rH b) 254 ⟨some ⟨b,0,none⟩,2,2⟩ [vI h.last,.map (some m)]
 map:ym kI (aea tag I b home) tag I (rL b) m cs h.live
 hc:cs[j]?=some c
 hq:h.live[j]?=some (n,s)
 rng:1<=n/\n<=h.last
theorem aaf.sess(f:aaf tag I bs t home n i b h m cs j c s):aea tag I b home c n s:=f.map.at' j c n s f.hc f.hq
theorem aaf.look(f:aaf tag I bs t home n i b h m cs j c s)(hi:wZ tag I T M bs t):qI t home=some h/\qI h.live n=some s/\jj t (home,n)=(0,some s):=by
 have h1:qI t home=some h:=ajl hi.map.keys (List.mem_of_getElem? f.hp)
 have h2:qI h.live n=some s:=ajl f.map.keys (List.mem_of_getElem? f.hq)
 refine⟨h1,h2,?_⟩
 unfold jj
 rw[h1]
 simp only
 have:=f.rng
 rw[if_neg (by omega),h2]
theorem wZ.setS{s':jQ}(hi:wZ tag I T M bs t)(f:aaf tag I bs t home n i b h m cs j c s)(k:qe [rS b c] ro tag I tag' I')(hn:aea tag' I' b home c n s'):wZ tag' I' T M bs (adB t (home,n) s'):=by
 have hR:agl b [rS b c]:=by
  refine⟨by simp[rH,rL,rS]<;>omega,by simp[rH,rL,rS]<;>omega,by simp[rH,rL,rS]<;>omega,fun x hx e=>?_,fun x hx e=>?_,fun x hx e=>⟨c,List.mem_singleton.1 hx⟩⟩
  .rw[List.mem_singleton.1 hx]at e;unfold rS at e;omega
  .rw[List.mem_singleton.1 hx]at e;unfold rS at e;omega
 have hs:Zt.adB t (home,n) s'=wD t home {h with live:=wD h.live n s'}:=by unfold Zt.adB;rw[(f.look hi).1]
 rw[hs]
 refine hi.old k hR f.hb f.hp ⟨m,cs,f.row.keep k (by simp[rH,rL,rS]<;>omega),f.map.write f.hc f.hq (f.map.map.keep k (by simp[rH,rL,rS]<;>omega)) hn fun c' k' x hc _ hx=>hx.keep k (fun hm=>?_) (by simp[rH,rL,rS]<;>omega)⟩
 have e:=List.mem_singleton.1 hm
 unfold rS at e
 exact hc (apF (b:=b) (c:=c') (b':=b) (c':=c) (by omega)).2
theorem wZ.delS(hi:wZ tag I T M bs t)(f:aaf tag I bs t home n i b h m cs j c s)(k:qe [rL b] ro tag I tag' I')(hm:zY kI tag' I' (rL b) m (jN (kvP h.live cs) n)):wZ tag' I' T M bs (afV t (home,n)):=by
 have hR:agl b [rL b]:=by
  refine⟨by simp[rH,rL,rS]<;>omega,by simp[rH,rL,rS]<;>omega,by simp[rH,rL,rS]<;>omega,fun x hx e=>?_,fun x hx e=>List.mem_singleton.1 hx,fun x hx e=>?_⟩
  .rw[List.mem_singleton.1 hx]at e;unfold rL at e;omega
  .rw[List.mem_singleton.1 hx]at e;unfold rL at e;omega
 have hs:Zt.afV t (home,n)=wD t home {h with live:=jN h.live n}:=by unfold Zt.afV;rw[(f.look hi).1]
 rw[hs]
 exact hi.old k hR f.hb f.hp ⟨m,cs.eraseIdx j,f.row.keep k (by simp[rH,rL,rS]<;>omega),f.map.del f.hc f.hq hm fun c' k' x hx=>hx.keep k (by simp[rH,rL,rS]<;>omega) (by simp[rH,rL,rS]<;>omega)⟩
end
theorem aih{κ α:Type}[DecidableEq κ]:∀ {m:List (κ×α)} {k:κ} {v:α},qI m k=some v->wD m k v=m
 | [],k,v,h=>by cases h
 | (k',v')::m,k,v,h=>by
  unfold qI at h
  unfold wD
  split at h
  .rename_i e;cases h;rw[if_pos e,e]
  .rename_i e;rw[if_neg e,aih h]
end Zt
namespace SL
open Go
variable{P:Program}{B:World}{ro I I':AH}{tag tag':Nat->Nat}
variable{j w:Nat}{s:Sl}
theorem adD(a:Addr)(p i:Nat):(a.add p).add i=a.add (p+i):=by
 cases p with
 | zero=>show a.add i=_;rw[Nat.zero_add]
 | succ p=>
  cases i with
  | zero=>rfl
  | succ i=>
   obtain⟨b,o,s⟩:=a
   cases s with
   | none=>simp[Addr.add];omega
   | some s=>simp[Addr.add];omega
theorem zw.ptr{l:List Value}(h:zw ro I s l)(hl:0<l.length):∃ p,s.a=some p/\∀ i v,l[i]?=some v->qa ro I (p.add i)=some v:=by
 cases e:s.a with
 | none=>have:=h.2.1 e;subst this;simp at hl
 | some p=>exact⟨p,rfl,h.2.2 p e⟩
theorem jE.at{l:List (List Value)}(h:jE ro I w s l){x:List Value}(hj:l[j]?=some x):∃ q,s.a=some q/\qg ro I (q.add (j*w)) 0 x:=by
 have hjl:j<l.length:=(List.getElem?_eq_some_iff.1 hj).1
 cases e:s.a with
 | none=>have:=h.2.1 e;subst this;simp at hjl
 | some q=>
  refine⟨q,rfl,zu 0 fun i v hv=>?_⟩
  have hw:=h.2.2.1 x (List.mem_of_getElem? hj)
  have hi:i<w:=by
   have:=(List.getElem?_eq_some_iff.1 hv).1
   omega
  have:=h.2.2.2 q e (j*w+i) v (by rw[aji h.2.2.1 hj hi];exact hv)
  rw[Nat.zero_add,adD];exact this
end SL
namespace Wi
open Go SL G Zt
variable{B:World}{ro I I':AH}{tag tag':Nat->Nat}
variable{K Q:AH->Prop}{n:Int}{W m r:Nat}{s:Sl}{a:Str×Bool}
theorem aeM:∀ (ps:List Str) (a:Str×Bool),(∀p∈ps,p.length<=m)->(ps.foldl wq a).1.length<=a.1.length+ps.length*(m+9)
 | [],a,_=>by simp
 | p::ps,a,h=>by
  have h1:=aeM ps (wq a p) fun q hq=>h q (by simp[hq])
  have h2:=yF a p
  have h3:=h p (by simp)
  rw[List.foldl_cons,List.length_cons,Nat.succ_mul]
  omega
theorem aq0{ps:List Str}(h:vl tag I r W a.1 a.2)(hr:r≠1)(hs:SL.Sep ro I)(hm:∀ p∈ps,p.length<=m)(hl:a.1.length+ps.length*(m+9)<=140737488355328)
  (hx:∀ tag' I',qe [r,r+64,1] ro tag I tag' I'->SL.zw ro I' s (ps.map Pa.vS))
  (hQ:∀ tag' I',qe [r,r+64,1] ro tag I tag' I'->vl tag' I' r W (ps.foldl wq a).1 (ps.foldl wq a).2->Q I'):vh B ro (some ⟨W,0,none⟩) s I Q:=by
 refine adf fun _=>?_
 unfold pu
 have hsl:s.len=ps.length:=by rw[(hx tag I (qe.refl hs)).1,List.length_map]
 suffices∀(k j:Nat) (tag1:Nat->Nat) (I1:AH),j+k=ps.length->qe [r,r+64,1] ro tag I tag1 I1->vl tag1 I1 r W ((ps.take j).foldl wq a).1 ((ps.take j).foldl wq a).2->lfpD (ku B ro (some ⟨W,0,none⟩) s Q) (j:Int) I1 from
  this _ 0 tag I (Nat.zero_add _) (qe.refl hs) (by simpa using h)
 have hps:ps.length<=140737488355328:=by
  have:ps.length*9<=ps.length*(m+9):=Nat.mul_le_mul_left _ (by omega)
  omega
 intro k
 induction k with
 | zero=>
  intro j tag1 I1 hj st h1
  refine lfpD.intro ?_
  unfold ku
  rw[if_neg (by omega)]
  rw[List.take_of_length_le (by omega)]at h1
  exact hQ tag1 I1 st h1
 | succ k ih=>
  intro j tag1 I1 hj st h1
  have hjl:j<ps.length:=by omega
  have hp0:=hm ps[j] (List.getElem_mem hjl)
  have hlen:((ps.take j).foldl wq a).1.length+(9+ps[j].length)<=140737488355328:=by
   have:=aeM (ps.take j) a fun p hp=>hm p (List.mem_of_mem_take hp)
   rw[List.length_take,Nat.min_eq_left (by omega)]at this
   have h2:(j+1)*(m+9)<=ps.length*(m+9):=Nat.mul_le_mul_right _ hjl
   rw[Nat.succ_mul]at h2
   omega
  obtain⟨p,hp,hg⟩:=(hx tag1 I1 st).ptr (by simp;omega)
  refine lfpD.intro ?_
  unfold ku
  rw[if_pos (by omega)]
  refine⟨p,hp,by omega,by omega,S ps[j],?_,_,rfl,?_⟩
  .rw[Int.toNat_natCast,Nat.mul_one]
   exact hg j _ (by rw[List.getElem?_map,List.getElem?_eq_getElem hjl];try rfl)
  have hl2:=kN ((ps.take j).foldl wq a) ps[j].length
  rw[show((S ps[j]).size:Int)=(ps[j].length:Nat)from by rw[<-xz,L_S]]
  refine aj2 h1 hr st.sep (by omega) fun tag2 I2 st2 h2=>?_
  refine⟨_,rfl,?_⟩
  refine age h2 st2.sep (by rw[L_S];omega) fun _ _ tag3 I3 st3 h3=>?_
  rw[L_S]at h3
  rw[Pa.inc j (by omega)]
  have e:(ps.take (j+1)).foldl wq a=wq ((ps.take j).foldl wq a) ps[j]:=by
   rw[List.take_add_one,List.getElem?_eq_getElem hjl,List.foldl_append];try rfl
  refine ih (j+1) tag3 I3 (by omega) (st.trans (st2.trans (st3.mono (by simp)))) ?_
  rw[e]
  exact h3
theorem xm{a:Str}(h:qQ n=true):wS (a,false) n=(a++wg n.toNat,false):=by unfold wS;rw[if_pos h]
theorem uI(h:qQ n=false):(wS a n).2=true:=by unfold wS;rw[h];try rfl
theorem jk(h:a.2=true):(wS a n).2=true:=by unfold wS;split<;>simp[h]
theorem afy{a p:Str}(h:p.length<4611686018427387904):wq (a,false) p=(a++yZ p,false):=by
 unfold wq
 rw[xm (by unfold qQ;simp;omega),Int.toNat_natCast]
 unfold yZ
 simp
theorem agm{p:Str}(h:a.2=true):(wq a p).2=true:=by unfold wq;exact jk h
theorem als:∀ (ns:List Int) {a:Str×Bool},a.2=true->(ns.foldl wS a).2=true
 | [],_,h=>h
 | n::ns,a,h=>als ns (a:=wS a n) (jk h)
theorem akd:∀ (ps:List Str) {a:Str×Bool},a.2=true->(ps.foldl wq a).2=true
 | [],_,h=>h
 | p::ps,a,h=>akd ps (a:=wq a p) (agm h)
theorem ake:∀ (ps:List Str) {a:Str},(∀p∈ps,p.length<4611686018427387904)->ps.foldl wq (a,false)=(a++ps.flatMap yZ,false)
 | [],a,_=>by simp
 | p::ps,a,h=>by
  rw[List.foldl_cons,afy (h p (by simp)),ake ps fun q hq=>h q (by simp[hq])]
  simp
theorem aii(ns:List Int):∀ a:Str×Bool,(ns.foldl wS a).1.length<=a.1.length+9*ns.length:=by
 induction ns with
 | nil=>intro a;simp
 | cons n ns ih=>
  intro a
  have:=ih (wS a n)
  have:=kN a n
  rw[List.foldl_cons,List.length_cons];omega
theorem afi(ns:List Int)(h:vl tag I r W a.1 a.2)(hr:r≠1/\r≠0)(hs:SL.Sep ro I)(hl:a.1.length+9*ns.length<=140737488355328)
  (hK:∀ tag' I',qe [r,r+64,1] ro tag I tag' I'->vl tag' I' r W (ns.foldl wS a).1 (ns.foldl wS a).2->K I'):
  nw ro I (.cells (ns.map Zt.vI).toArray 3) fun y I=>wX B ro (some ⟨W,0,none⟩) (⟨some ⟨y,0,none⟩,ns.length,ns.length⟩:Sl) I K:=by
 refine qj (tag:=tag) 0 hs fun y tag1 I1 st1 r1=>?_
 rw[List.size_toArray,List.length_map]at r1
 exact anG (r:=r) (q:=0) (ns:=ns) (a:=a) hr.1 ⟨Ne.symm hr.2,by omega,by omega⟩ (h.keep (st1 [])) (st1 []).sep hl r1 fun tag2 I2 st2 h2=>hK tag2 I2 ((st1 _).trans st2) h2
theorem apG(p:Str)(h:vl tag I r W a.1 a.2)(hr:r≠1/\r≠0)(hs:SL.Sep ro I)(hl:a.1.length+9+p.length<=140737488355328)
  (hK:∀ tag' I',qe [r,r+64,1] ro tag I tag' I'->vl tag' I' r W (wq a p).1 (wq a p).2->K I'):
  nw ro I (.cells #[.string (S p)] 9) fun y I=>vh B ro (some ⟨W,0,none⟩) (⟨some ⟨y,0,none⟩,1,1⟩:Sl) I K:=by
 refine qj (tag:=tag) 0 hs fun y tag1 I1 st1 r1=>?_
 exact alj (r:=r) (q:=0) (p:=p) (a:=a) (h.keep (st1 [])) hr.1 ⟨Ne.symm hr.2,by omega,by omega⟩ (st1 []).sep hl r1 fun tag2 I2 st2 h2=>hK tag2 I2 ((st1 _).trans st2) h2
theorem as8(p:Str)(h:vl tag I r W a.1 a.2)(hr:r≠1/\r≠0)(hs:SL.Sep ro I)(hl:a.1.length+9+p.length<=140737488355328)
  (hsrc:∀ tag' I',qe [r,r+64,1] ro tag I tag' I'->SL.zw ro I' s (p.map vU)) (hK:∀ tag' I',qe [r,r+64,1] ro tag I tag' I'->vl tag' I' r W (wq a p).1 (wq a p).2->K I'):
  nw ro I (.cells #[Sl.v s] 24) fun y I=>jm B ro (some ⟨W,0,none⟩) (⟨some ⟨y,0,none⟩,1,1⟩:Sl) I K:=by
 have hln:s.len=p.length:=by have:=(hsrc tag I (qe.refl hs)).1;rw[this,List.length_map]
 refine qj (tag:=tag) 0 hs fun y tag1 I1 st1 r1=>?_
 exact alk (r:=r) (q:=0) (p:=p) (a:=a) (h.keep (st1 [])) hr.1 ⟨Ne.symm hr.2,by omega,by omega⟩ (st1 []).sep hl r1 hln (fun tag2 I2 st2=>hsrc tag2 I2 ((st1 _).trans st2)) fun tag2 I2 st2 h2=>hK tag2 I2 ((st1 _).trans st2) h2
end Wi
namespace Zt
open Go SL Pa Wi
structure ahf(x:Rep):Prop where
 data:x.data.length<=1048576
 res:∀ y∈x.results,y.1.length<=1048576
 names:∀ y∈x.names,y.length<=1048576
 evs:∀ y∈x.events,y.2.2.length<=1048576
def abh(a:Str×Bool)(y:Str×Int):Str×Bool:=wS (wq a y.1) y.2
def wev(a:Str×Bool)(y:Int×Int×Str):Str×Bool:=wq (wS (wS a y.1) y.2.1) y.2.2
def wr1(x:Rep):Str×Bool:=[x.code,x.session,(x.results.length:Int)].foldl wS ([],false)
def wr2(x:Rep):Str×Bool:=x.results.foldl abh (wr1 x)
def wr3(x:Rep):Str×Bool:=wq (wS (wr2 x) (x.bad+1)) x.data
def wr4(x:Rep):Str×Bool:=[x.ver,x.ctr,x.own,x.kids,(x.names.length:Int)].foldl wS (wr3 x)
def wr5(x:Rep):Str×Bool:=wS (x.names.foldl wq (wr4 x)) (x.events.length:Int)
def wr6(x:Rep):Str×Bool:=x.events.foldl wev (wr5 x)
def aet(x:Rep):Str×Bool:=wS (wr6 x) x.epoch
theorem aju{α:Type}{f:Str×Bool->α->Str×Bool}{n:Nat}:∀ (l:List α) (a:Str×Bool),(∀a,∀y∈l,(f a y).1.length<=a.1.length+n)->(l.foldl f a).1.length<=a.1.length+n*l.length
 | [],a,_=>by simp
 | y::l,a,h=>by
  have h1:=aju l (f a y) fun a z hz=>h a z (by simp[hz])
  have h2:=h a y (by simp)
  rw[List.foldl_cons,List.length_cons,Nat.mul_add]
  omega
theorem ahg{α:Type}{f:Str×Bool->α->Str×Bool}(h:∀ a y,a.2=true->(f a y).2=true):∀ (l:List α) {a:Str×Bool},a.2=true->(l.foldl f a).2=true
 | [],_,k=>k
 | y::l,a,k=>ahg h l (h a y k)
theorem aq1(a:Str×Bool)(y:Str×Int):(abh a y).1.length<=a.1.length+18+y.1.length:=by
 unfold abh
 have:=kN (wq a y.1) y.2
 have:=yF a y.1
 omega
theorem asl(a:Str×Bool)(y:Int×Int×Str):(wev a y).1.length<=a.1.length+27+y.2.2.length:=by
 unfold wev
 have:=yF (wS (wS a y.1) y.2.1) y.2.2
 have:=kN (wS a y.1) y.2.1
 have:=kN a y.1
 omega
theorem alt(x:Rep)(hs:ahf x)(h1:x.results.length<=16)(j:Nat):((x.results.take j).foldl abh (wr1 x)).1.length<=27+1048594*16:=by
 have h:=aju (f:=abh) (n:=1048594) (x.results.take j) (wr1 x) fun a y hy=>by
  have:=aq1 a y
  have:=hs.res y (List.mem_of_mem_take hy)
  omega
 have h0:(wr1 x).1.length<=27:=by have:=aii [x.code,x.session,(x.results.length:Int)] ([],false);simpa [wr1]using this
 have h2:(x.results.take j).length<=16:=by rw[List.length_take];omega
 have h3:1048594*(x.results.take j).length<=1048594*16:=Nat.mul_le_mul_left _ h2
 omega
theorem anN(x:Rep)(hs:ahf x)(h1:x.results.length<=16):(wr2 x).1.length<=27+1048594*16:=by
 have:=alt x hs h1 x.results.length
 rw[List.take_length]at this
 exact this
theorem anO(x:Rep)(hs:ahf x)(h1:x.results.length<=16):(wr4 x).1.length<=20000000:=by
 have a:=anN x hs h1
 have b:=kN (wr2 x) (x.bad+1)
 have c:=yF (wS (wr2 x) (x.bad+1)) x.data
 have d:=aii [x.ver,x.ctr,x.own,x.kids,(x.names.length:Int)] (wr3 x)
 have e:=hs.data
 unfold wr4 wr3 at*
 simp only[List.length_cons,List.length_nil]at d
 omega
theorem asm(x:Rep)(hs:ahf x)(h1:x.results.length<=16)(h2:x.names.length<=4096):(wr5 x).1.length<=20000009+4096*1048585:=by
 have a:=anO x hs h1
 have b:=aeM (m:=1048576) x.names (wr4 x) hs.names
 have c:x.names.length*(1048576+9)<=4096*1048585:=Nat.mul_le_mul_right _ h2
 have d:=kN (x.names.foldl wq (wr4 x)) (x.events.length:Int)
 unfold wr5
 omega
theorem amG(x:Rep)(hs:ahf x)(h1:x.results.length<=16)(h2:x.names.length<=4096)(h3:x.events.length<=32)(j:Nat):((x.events.take j).foldl wev (wr5 x)).1.length<=5000000000:=by
 have h:=aju (f:=wev) (n:=1048603) (x.events.take j) (wr5 x) fun a y hy=>by
  have:=asl a y
  have:=hs.evs y (List.mem_of_mem_take hy)
  omega
 have h0:=asm x hs h1 h2
 have h4:(x.events.take j).length<=32:=by rw[List.length_take];omega
 have h5:1048603*(x.events.take j).length<=1048603*32:=Nat.mul_le_mul_left _ h4
 omega
theorem asn(x:Rep)(hs:ahf x)(h1:x.results.length<=16)(h2:x.names.length<=4096)(h3:x.events.length<=32):(wr6 x).1.length<=5000000000:=by
 have:=amG x hs h1 h2 h3 x.events.length
 rw[List.take_length]at this
 exact this
theorem alu:∀ (l:List (Str×Int)) {a:Str},(∀y∈l,qQ y.2=true/\y.1.length<4611686018427387904)->l.foldl abh (a,false)=(a++aib l,false)
 | [],a,_=>by simp[aib]
 | y::l,a,h=>by
  obtain⟨h1,h2⟩:=h y (by simp)
  rw[List.foldl_cons]
  have:abh (a,false) y=(a++(yZ y.1++wg y.2.toNat),false):=by
   unfold abh;rw[afy h2,xm h1,List.append_assoc]
  rw[this,alu l fun z hz=>h z (by simp[hz])]
  unfold aib
  simp
theorem amH:∀ (l:List (Int×Int×Str)) {a:Str},(∀y∈l,(qQ y.1=true/\qQ y.2.1=true)/\y.2.2.length<4611686018427387904)->l.foldl wev (a,false)=(a++aic l,false)
 | [],a,_=>by simp[aic]
 | y::l,a,h=>by
  obtain⟨⟨h1,h2⟩,h3⟩:=h y (by simp)
  rw[List.foldl_cons]
  have:wev (a,false) y=(a++(wg y.1.toNat++(wg y.2.1.toNat++yZ y.2.2)),false):=by
   unfold wev;rw[xm h1,xm h2,afy h3];simp
  rw[this,amH l fun z hz=>h z (by simp[hz])]
  unfold aic
  simp
theorem akU{α:Type}{f:Str×Bool->α->Str×Bool}(hb:∀ a y,a.2=true->(f a y).2=true){p:α->Prop}(hn:∀ a y,¬p y->(f a y).2=true):∀ (l:List α) {a:Str×Bool},(¬ ∀y∈l,p y)->(l.foldl f a).2=true
 | [],_,h=>absurd (fun y hy=>by cases hy) h
 | y::l,a,h=>by
  rw[List.foldl_cons]
  by_cases c:p y
  .refine akU hb hn l fun hall=>h fun z hz=>?_
   rcases List.mem_cons.1 hz with rfl | hz
   .exact c
   .exact hall z hz
  .exact ahg hb l (hn a y c)
theorem abi{n:Int}(h:¬ qQ n=true):qQ n=false:=by simpa using h
theorem aq2{α:Type}{l:List α}{n:Nat}(h:l.length<=n)(hn:n<4611686018427387904):qQ (l.length:Int)=true:=by rw[aeL];omega
theorem amI(a:Str×Bool)(y:Str×Int)(h:a.2=true):(abh a y).2=true:=by unfold abh;exact jk (agm h)
theorem anP(a:Str×Bool)(y:Int×Int×Str)(h:a.2=true):(wev a y).2=true:=by unfold wev;exact agm (jk (jk h))
theorem amJ{x:Rep}(h:adm x)(hs:ahf x):aet x=(aid x,false):=by
 obtain⟨h1,h2,h3,h4,h5,c1,c2,c3,c4,c5,c6,c7,h6,h7⟩:=h
 have e1:wr1 x=(wg x.code.toNat++wg x.session.toNat++wg x.results.length,false):=by
  unfold wr1
  simp only[List.foldl_cons,List.foldl_nil]
  rw[xm c1,xm c2,xm (aq2 h1 (by decide)),Int.toNat_natCast];simp
 have e2:=alu x.results (a:=wg x.code.toNat++wg x.session.toNat++wg x.results.length) fun y hy=>⟨h6 y hy,by have:=hs.res y hy;omega⟩
 have cb:qQ (x.bad+1)=true:=by rw[aeL];omega
 unfold aet wr6 wr5 wr4 wr3 wr2
 rw[e1,e2,xm cb,afy (by have:=hs.data;omega)]
 simp only[List.foldl_cons,List.foldl_nil]
 rw[xm c3,xm c4,xm c5,xm c6,xm (aq2 h2 (by decide)),Int.toNat_natCast,ake x.names fun y hy=>by have:=hs.names y hy;omega]
 rw[xm (aq2 h3 (by decide)),Int.toNat_natCast,amH x.events fun y hy=>⟨h7 y hy,by have:=hs.evs y hy;omega⟩,xm c7]
 unfold aid
 simp only[List.append_assoc,List.nil_append]
theorem aso{x:Rep}(h:¬ adm x)(h1:x.results.length<=16)(h2:x.names.length<=4096)(h3:x.events.length<=32)(h5:x.bad<4611686018427387903):(aet x).2=true:=by
 have f6:(wr6 x).2=true->(aet x).2=true:=fun k=>jk k
 have f5:(wr5 x).2=true->(aet x).2=true:=fun k=>f6 (ahg anP _ k)
 have f4:(wr4 x).2=true->(aet x).2=true:=fun k=>f5 (jk (akd _ k))
 have f3:(wr3 x).2=true->(aet x).2=true:=fun k=>f4 (als _ k)
 have f2:(wr2 x).2=true->(aet x).2=true:=fun k=>f3 (agm (jk k))
 have f1:(wr1 x).2=true->(aet x).2=true:=fun k=>f2 (ahg amI _ k)
 by_cases c1:qQ x.code=true
 .by_cases c2:qQ x.session=true
  .by_cases c3:∀ y∈x.results,qQ y.2=true
   .by_cases c4:qQ (x.bad+1)=true
    .by_cases c5:qQ x.ver=true
     .by_cases c6:qQ x.ctr=true
      .by_cases c7:qQ x.own=true
       .by_cases c8:qQ x.kids=true
        .by_cases c9:∀ y∈x.events,qQ y.1=true/\qQ y.2.1=true
         .by_cases c10:qQ x.epoch=true
          .have:=aeL.1 c4
           exact absurd ⟨h1,h2,h3,by omega,h5,c1,c2,c5,c6,c7,c8,c10,c3,c9⟩ h
          .exact uI (abi c10)
         .refine f6 (akU (p:=fun y:Int×Int×Str=>qQ y.1=true/\qQ y.2.1=true) anP (fun a y hy=>?_) _ c9)
          unfold wev
          refine agm ?_
          by_cases d:qQ y.1=true
          .exact uI (abi fun e=>hy ⟨d,e⟩)
          .exact jk (uI (abi d))
        .exact f4 (jk (uI (abi c8)))
       .exact f4 (jk (jk (uI (abi c7))))
      .exact f4 (jk (jk (jk (uI (abi c6)))))
     .exact f4 (jk (jk (jk (jk (uI (abi c5))))))
    .exact f3 (agm (uI (abi c4)))
   .refine f2 (akU (p:=fun y:Str×Int=>qQ y.2=true) amI (fun a y hy=>?_) _ c3)
    unfold abh
    exact uI (abi hy)
  .exact f1 (jk (uI (abi c2)))
 .exact f1 (jk (jk (uI (abi c1))))