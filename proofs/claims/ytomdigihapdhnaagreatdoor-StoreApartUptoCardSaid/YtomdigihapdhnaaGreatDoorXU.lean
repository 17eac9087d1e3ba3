import Derived.Test.YtomdigihapdhnaaGreatDoorXT
set_option linter.all false
set_option maxRecDepth 99999
set_option maxHeartbeats 0
open Go.IntKind(i64)
open Go.Proofs.Tryz
namespace Go.Proofs.YtomdigihapdhnaaGreatDoor
namespace Zt
open Go SL Pa Wi
variable{lease nonce owner qb qn req v:Int}{ws:List Int}{ops:List MOp}{o:MOp}{b:Nat}{n:Nd}{a a' st:St}{s s':Sto}{d h home p u:Str}{k:Str×Int}{t:Tbl}{c:wM}
def ahd{P:St->Prop}(hP:∀ a p,p∈kd st ws->(qq p).getD []=home->P a->P (wo a p (-1)).1)(h:P st):P (xe st home ws).1:=by
 have key:∀ (ks:List Str) (a:St×List Str),(∀k∈ks,k∈kd st ws)->P a.1->P (ks.foldl (zX home) a).1:=by
  intro ks
  induction ks with
  | nil=>intro a _ h;exact h
  | cons k ks ih=>
   intro a hk h
   rw[mY]
   refine ih _ (fun x hx=>hk x (by simp[hx])) ?_
   unfold zX
   split
   .rename_i c
    exact hP _ _ (hk k y0) c.1 h
   .exact h
 exact key _ _ (fun k hk=>hk) h
def anR{k:Str}(hm:k∈kd st ws):∃ n,st.lookup k=some n/\n.own≠0/\n.own∈ws:=by
 unfold kd at hm
 rw[List.mem_reverse,Le]at hm
 have:=hm.2
 unfold pS at this
 cases e:st.lookup k with
 | none=>rw[e]at this;simp at this
 | some n=>rw[e]at this;simp at this;exact⟨n,rfl,this.1,this.2⟩
def pL(hn:wb home=true):parts (47::home)=some [home]/\qw (47::home)=some [47]/\qq (47::home)=some home:=by
 have hl:=ab9 hn
 have h1:parts (47::home)=some [home]:=qZ.2 ⟨by simp[mk],⟨y0,fun y hy=>by rw[mr.1 hy];exact hn,by simp[mk];omega⟩⟩
 refine⟨h1,?_,?_⟩
 .unfold qw;rw[h1];try rfl
 .rw[yy h1];try rfl
def asR{k x:Str}(h:parts k=some [x]):k=47::x/\wb x=true/\qq k=some x/\qw k=some [47]:=by
 obtain⟨h1,h2⟩:=qZ.1 h
 have hx:=h2.ok x y0
 have hk:k=47::x:=by rw[h1];simp[mk]
 rw[hk]
 exact⟨rfl,hx,(pL hx).2.2,(pL hx).2.1⟩
def adg:qq [47]=none:=rfl
def adh(hi:qQ b st)(hn:wb home=true)(hr:st.lookup [47]=some n)(hc:n.ctr<=9999999999)(hl:st.lookup (47::home)=none):
  we st (47::home) [] 0 false=(wH (st++[(47::home,⟨0,0,0,0,[]⟩)]) [47] jL,47::home,0):=by
 unfold we
 rw[(pL hn).2.1]
 simp only
 rw[ma y0,ma z7,hr]
 simp only
 rw[ma (by simp[(hi.rt n hr).2.2]),ma z7]
 simp only[Bool.false_eq_true,if_false]
 rw[hl]
 try rfl
def avL(hi:Inv st)(hl:st.lookup (47::home)=none):∀ k n,st.lookup k=some n->qq k≠some home:=by
 have key:∀ (m:Nat) (k:Str) (n:Nd) (ps:List Str),st.lookup k=some n->parts k=some ps->ps.length=m+1->ps.head?=some home->False:=by
  intro m
  induction m with
  | zero=>
   intro k n ps hk hp hlen hh
   match ps,hlen with
   | [x],_=>
    simp at hh
    subst hh
    rw[(asR hp).1,hl]at hk;cases hk
  | succ m ih=>
   intro k n ps hk hp hlen hh
   have hne:k≠[47]:=fun e=>by
    rw[e]at hp
    have:parts [47]=some []:=rfl
    rw[this]at hp;cases hp;simp at hlen
   obtain⟨u,m',hu,hl',_⟩:=hi.up k n hk hne
   obtain⟨qs,h1,h2,h3⟩:=alB hu
   rw[hp]at h1;cases h1
   refine ih u m' _ hl' h3 (by rw[List.length_dropLast];omega) ?_
   match ps,hlen with
   | x::y::r,_=>simpa using hh
 intro k n hk hh
 obtain⟨ps,hps⟩:=hi.path k n hk
 rw[yy hps]at hh
 match ps,hh with
 | x::r,hh=>exact key r.length k n _ hk hps y0 hh
def Qt(st:St):Prop:= ∀home,bnd st home 64 8192
def amt(hk:(st.map (·.1)).Nodup)(hn:∀ k n,st.lookup k=some n->qq k≠some h):zh st h=(0,0):=by
 have L:Loc h st []:=fun k hk=>by
  cases e:st.lookup k with
  | none=>rfl
  | some n=>exact mt hk (hn k n e)
 exact aka hk y0 L
def awv:Qt St.new:=fun home=>by
 have:zh St.new home=(0,0):=by
  refine amt (by simp[St.new]) fun k n h=>?_
  unfold St.new at h
  rw[na]at h
  by_cases c:k=[47]
  .rw[c,adg];simp
  .rw[show(k == [47])=false by simpa using c]at h;cases h
 unfold bnd;rw[this];exact⟨y1,y1⟩
def auu(h:Qt st):Qt (xe st home ws).1:=ahd (P:=Qt) (fun a p _ _ ha home'=>al9 (ha home')) h
def auv(hi:qQ b st)(hb:b<=4398046511000)(h:Qt st):Qt (qR st home owner 64 8192 ops).st:=fun h'=>by
 by_cases c:h'=home
 .subst c;exact asq (h _)
 .have L:Loc h' (qR st home owner 64 8192 ops).st st:=fun k hk=>ai5 hi hb k (by rw[hk];intro e;exact c (mB e))
  have:=h h'
  unfold bnd at this⊢
  rw[aka (al6 hi hb).inv.keys hi.inv.keys L];exact this
def avM(hi:qQ b st)(hn:wb home=true)(hr:st.lookup [47]=some n)(hc:n.ctr<=9999999999)(hl:st.lookup (47::home)=none)(h:Qt st):Qt (we st (47::home) [] 0 false).1:=fun h'=>by
 rw[adh hi hn hr hc hl]
 unfold bnd
 rw[aiN (f:=jL) (fun n=>rfl),af4 (List.perm_append_singleton (47::home,(⟨0,0,0,0,[]⟩:Nd)) st),acG]
 have hl':=ab9 hn
 by_cases c:h'=home
 .subst c
  rw[amt hi.inv.keys (avL hi.inv hl)]
  unfold uw
  rw[mc (pL hn).2.2,mc (pL hn).2.2]
  simp only[mz,nH]
  exact⟨z7,z7⟩
 .have hne:qq (47::home)≠some h':=by rw[(pL hn).2.2];intro e;exact c (mB e).symm
  unfold uw
  rw[ma hne,ma hne]
  have:=h h'
  unfold bnd at this
  simp only
  exact⟨z7,z7⟩
def Top(a a':St):Prop:= ∀k x,parts k=some [x]->(a'.lookup k).map (·.own)=(a.lookup k).map (·.own)
def Top.refl(a:St):Top a a:=fun _ _ _=>rfl
def Top.trans{b c:St}(h:Top a b)(k:Top b c):Top a c:=fun x y e=>(k x y e).trans (h x y e)
def aku{f:Nd->Nd}(hf:∀ n,(f n).own=n.own)(k:Str):((wH st u f).lookup k).map (·.own)=(st.lookup k).map (·.own):=by
 rw[wu]
 split
 .cases st.lookup k with
  | none=>rfl
  | some n=>simp[hf]
 .rfl
def arz{o:Int}{seq:Bool}(hu:∀ u,qw p=some u->qq u=some h):Top a (we a p d o seq).1:=by
 have R:=Top.refl a
 unfold we
 cases hp:qw p with
 | none=>exact R
 | some u=>
  have hhu:=hu u hp
  simp only
  split
  .exact R
  .split
   .exact R
   .cases hn:a.lookup u with
    | none=>exact R
    | some n=>
     simp only
     split
     .exact R
     .split
      .exact R
      .cases hq:(if seq then pn p n.ctr else some p)with
       | none=>exact R
       | some q=>
        simp only
        have hpq:qw q=some u:=by
         cases seq with
         | true=>simp at hq;obtain⟨_,_,e⟩:=abm hq;rw[e,hp]
         | false=>simp at hq;rw[<-hq,hp]
        split
        .exact R
        .intro k x hk
         rw[aku (f:=jL) (fun n=>rfl),jv]
         have hkq:k≠q:=fun e=>by
          have h1:=(asR hk).2.2.2
          rw[e,hpq]at h1
          rw[mB h1,adg]at hhu;cases hhu
         cases a.lookup k with
         | some m=>rfl
         | none=>simp only;rw[ma hkq]
def amu(hk:(a.map (·.1)).Nodup)(hp:∀ x,parts p≠some [x]):Top a (wo a p v).1:=by
 rcases ac9 a p v with⟨e,_,he⟩ | ⟨n,u,he,_⟩
 .rw[he];exact Top.refl a
 .rw[he]
  intro k x hkx
  simp only
  rw[uN (by rw[pf];exact hk),ma (fun e=>hp x (by rw[<-e];exact hkx)),aku (f:=pB) (fun n=>rfl)]
def auw:Top a (kn a p d v).1:=by
 rcases ajQ a p d v with⟨e,_,he⟩ | ⟨n,he,_⟩
 .rw[he];exact Top.refl a
 .rw[he]
  intro k x hkx
  simp only
  rw[aku (f:=ae6 d) (fun n=>rfl)]
def apP(h:wT home o=0)(hk:o.kind<=2):∀ x,parts o.path≠some [x]:=by
 intro x e
 unfold wT at h
 split at h
 .cases h
 .rw[e]at h
  simp only at h
  rw[mc (.inr ⟨rfl,hk⟩)]at h;cases h
def aux(hw:wT home o=0)(hka:(a.map (·.1)).Nodup):Top a (vT owner a o).1:=by
 obtain⟨h1,h2⟩:=afc hw
 unfold vT
 split
 .exact arz (h2 z7)
 .split
  .exact amu hka (apP hw z7)
  .split
   .exact auw
   .exact Top.refl a
def avN{w:ph}(hk:(w.st.map (·.1)).Nodup):Top w.st (doE home owner qn qb w o).2.st:=by
 by_cases hc:wT home o=0
 .have:=aux (owner:=owner) hc hk
  unfold doE
  rw[ma (j4 hc)]
  split
  .exact this
  .split
   .exact this
   .exact this
 .unfold doE
  rw[mc hc]
  exact Top.refl _
def arA:∀ {os:List MOp} {i b:Nat} {w v:ph},qQ b w.st->b+os.length<=4398046511103->zt home owner qn qb os i w= .inr v->Top w.st v.st:=by
 intro os
 induction os with
 | nil=>intro i b w v _ _ h;cases h;exact Top.refl _
 | cons o os ih=>
  intro i b w v h1 hb h
  simp only[mz]at hb
  unfold zt at h
  split at h
  .cases h
  .exact(avN (home:=home) (owner:=owner) (qn:=qn) (qb:=qb) (o:=o) h1.inv.keys).trans (ih (aeT h1 z7) z7 h)
def arB(ha:qQ b a)(hb:b<=4398046511000):Top a (qR a home owner qn qb ops).st:=by
 unfold qR
 split
 .exact Top.refl a
 .split
  .exact Top.refl a
  .cases e:zt home owner qn qb ops 0 ⟨srt a,[],[]⟩with
   | inl x=>exact Top.refl a
   | inr w=>
    have:=arA (adK ha) z7 e
    intro k x hk
    rw[<-af9 ha.inv.keys k]
    exact this k x hk
structure xb(b:Nat)(s:Sto):Prop where
 qt:Qt s.tree
 at1:∀ p∈s.tbl.map (·.1),∃n,s.tree.lookup (47::p)=some n
 own1:∀ k n x,s.tree.lookup k=some n->parts k=some [x]->n.own=0
 rt:∀ n,s.tree.lookup [47]=some n->n.ctr<=b
def Top.at1(h:Top a a')(ht:∀ p∈t.map (·.1),wb p=true)(k:∀ p∈t.map (·.1),∃n,a.lookup (47::p)=some n):∀ p∈t.map (·.1),∃n,a'.lookup (47::p)=some n:=fun p hp=>by
 obtain⟨n,hn⟩:=k p hp
 have:=h (47::p) p (pL (ht p hp)).1
 rw[hn]at this
 cases e:a'.lookup (47::p)with
 | some m=>exact⟨m,rfl⟩
 | none=>rw[e]at this;cases this
def Top.own1(h:Top a a')(k:∀ k n x,a.lookup k=some n->parts k=some [x]->n.own=0):∀ k n x,a'.lookup k=some n->parts k=some [x]->n.own=0:=fun q n x hn hp=>by
 have:=h q x hp
 rw[hn]at this
 cases e:a.lookup q with
 | none=>rw[e]at this;cases this
 | some m=>rw[e]at this;simp at this;rw[this];exact k q m x e hp
def anS{s:yf}:(aet t k s).map (·.1)=t.map (·.1):=by
 unfold aet
 split
 .rfl
 .rename_i h e
  rw[afq,mc (by rw[<-Ld (a:=k.1∈_),<-xK,e];simp)]
def anT:(adL t k).map (·.1)=t.map (·.1):=by
 unfold adL
 split
 .rfl
 .rename_i h e
  rw[afq,mc (by rw[<-Ld (a:=k.1∈_),<-xK,e];simp)]
def apQ:(aaL t k).1.map (·.1)=t.map (·.1):=by
 unfold aaL
 split
 .exact anS
 .rfl
def asS:(acV t k req d).1.map (·.1)=t.map (·.1):=by
 unfold acV
 split
 .split
  .rfl
  .split
   .rfl
   .exact anS
 .rfl
def apn{n:Int}:(vu t k n).1.map (·.1)=t.map (·.1):=by
 unfold vu
 split
 .split
  .exact anT
  .rfl
 .rfl
def apR:(yz t k).1.map (·.1)=t.map (·.1):=by
 unfold yz
 split
 .exact anT
 .rfl
def ahe(h:vV b t):∀ p∈t.map (·.1),wb p=true:=fun p hp=>by
 obtain⟨q,hq,rfl⟩:=mN.1 hp
 exact(h.ok q hq).1
def xb.of{c:Nat}(h:xb b s)(hc:b<=c)(ht:∀ p∈s.tbl.map (·.1),wb p=true)(hk:s'.tbl.map (·.1)=s.tbl.map (·.1))(hq:Qt s'.tree)(htop:Top s.tree s'.tree)(hr:∀ n,s'.tree.lookup [47]=some n->∃ m,s.tree.lookup [47]=some m/\n.ctr=m.ctr):xb c s':=
 ⟨hq,by rw[hk];exact htop.at1 ht h.at1,htop.own1 h.own1,fun n hn=>by
  obtain⟨m,h1,h2⟩:=hr n hn
  have:=h.rt m h1
  omega⟩
def xb.tbl{c:Nat}(h:xb b s)(hc:b<=c)(ht:∀ p∈s.tbl.map (·.1),wb p=true)(hk:s'.tbl.map (·.1)=s.tbl.map (·.1))(he:s'.tree=s.tree):xb c s':=
 h.of hc ht hk (by rw[he];exact h.qt) (by rw[he];exact Top.refl _) fun n hn=>⟨n,by rw[<-he];exact hn,rfl⟩
def asT(hi:qQ b st)(hb:b<=4398046511103)(ho:∀ k n x,st.lookup k=some n->parts k=some [x]->n.own=0):Top st (xe st home ws).1:=by
 have:=ahd (P:=fun a=>qQ b a/\Top st a) (home:=home) (ws:=ws) (st:=st) (fun a p hp _ h=>?_) ⟨hi,Top.refl st⟩
 .exact this.2
 .obtain⟨n,h1,h2,_⟩:=anR hp
  exact⟨aeU h.1 hb,h.2.trans (amu h.1.inv.keys fun x e=>h2 (ho p n x h1 e))⟩
def auy(hi:qQ b st)(hb:b<=4398046511103):∀ n,(xe st home ws).1.lookup [47]=some n->∃ m,st.lookup [47]=some m/\n.ctr=m.ctr:=by
 have:=ahd (P:=fun a=>qQ b a/\∀ n,a.lookup [47]=some n->∃ m,st.lookup [47]=some m/\n.ctr=m.ctr) (home:=home) (ws:=ws) (st:=st) (fun a p hp _ h=>?_) ⟨hi,fun n hn=>⟨n,hn,rfl⟩⟩
 .exact this.2
 .refine⟨aeU h.1 hb,fun n hn=>?_⟩
  rcases ac9 a p (-1)with⟨e,_,he⟩ | ⟨n',u,he,_⟩
  .rw[he]at hn;exact h.2 n hn
  .rw[he]at hn
   simp only at hn
   rw[uN (by rw[pf];exact h.1.inv.keys)]at hn
   split at hn
   .cases hn
   .rw[wu]at hn
    split at hn
    .obtain⟨m',h1,h2⟩:=nm.1 hn
     obtain⟨m,h3,h4⟩:=h.2 m' h1
     exact⟨m,h3,by rw[<-h2];exact h4⟩
    .exact h.2 n hn
def auz(hi:qQ b st)(hb:b<=4398046511000):∀ n,(qR st home owner qn qb ops).st.lookup [47]=some n->∃ m,st.lookup [47]=some m/\n.ctr=m.ctr:=fun n hn=>
 ⟨n,by rw[<-ai5 (home:=home) (owner:=owner) (qn:=qn) (qb:=qb) (ops:=ops) hi hb [47] (by rw[adg];simp)];exact hn,rfl⟩
def ak2{c:Nat}(h:xb b s)(hc:b<=c)(i:wU c s)(hb:c<=33554433):xb c (acp s k):=
 h.of hc (ahe i.tbl) rfl (auu h.qt) (asT i.tree z7 h.own1) (auy i.tree z7)
def amv:∀ p∈(wX t home nonce lease).1.map (·.1),p∈t.map (·.1)\/p=home:=fun p hp=>by
 unfold wX at hp
 split at hp
 .exact .inl hp
 split at hp
 .exact .inl hp
 split at hp
 .exact .inl hp
 split at hp
 .exact .inl hp
 split at hp
 .exact .inl hp
 rw[afq]at hp
 split at hp
 .exact .inl hp
 .rcases mv.1 hp with hp | hp
  .exact .inl hp
  .exact .inr (mr.1 hp)
def ai7(h:(wX t home nonce lease).2.2=0):wb home=true:=by
 unfold wX at h
 split at h
 .cases h
 .rename_i hn;simpa using hn
def asU(i:wU b s)(hb:b<=33554432)(h:xb b s):xb (b+1) (abS s c).1/\((abS s c).2.code=0->∃ n,(abS s c).1.tree.lookup (47::c.home)=some n):=by
 unfold abS
 by_cases h0:(wX s.tbl c.home c.nonce c.lease).2.2=0
 .rw[ma (j4 h0)]
  have hn:=ai7 h0
  simp only
  by_cases hl:(s.tree.lookup (47::c.home)).isNone=true
  .rw[mc ⟨hn,hl⟩]
   have hl':s.tree.lookup (47::c.home)=none:=by simpa using hl
   obtain⟨n,hr⟩:=i.tree.inv.root
   have hrc:=h.rt n hr
   have hq:=avM i.tree hn hr z7 hl' h.qt
   have e:=adh i.tree hn hr z7 hl'
   have lk:∀ k,(we s.tree (47::c.home) [] 0 false).1.lookup k=if k=[47]then some (jL n)else if k=47::c.home then some ⟨0,0,0,0,[]⟩else s.tree.lookup k:=fun k=>by
    rw[e]
    simp only
    rw[wu,jv]
    by_cases c1:k=[47]
    .subst c1;rw[mc rfl,mc rfl,hr];try rfl
    .rw[ma c1,ma c1]
     by_cases c2:k=47::c.home
     .subst c2;rw[mc rfl,hl'];simp
     .cases s.tree.lookup k with
      | none=>simp[c2]
      | some m=>simp[c2]
   have hne:(47::c.home:Str)≠[47]:=fun x=>by have:=ab9 hn;simp at x;rw[x]at this;simp at this
   have hbump:(jL n).ctr=n.ctr+1:=by
    unfold jL
    have:=(i.tree.inv.ctr0 hr)
    exact SL.qY z7 z7
   refine⟨⟨hq,fun p hp=>?_,fun k m x hk hp=>?_,fun m hm=>?_⟩,fun _=>⟨_,by rw[lk,ma hne,mc rfl]⟩⟩
   .simp only at hp⊢
    rw[lk]
    rcases amv p hp with hp | hp
    .obtain⟨m,hm⟩:=h.at1 p hp
     split
     .exact⟨_,rfl⟩
     .split
      .exact⟨_,rfl⟩
      .exact⟨m,hm⟩
    .rw[hp,ma hne,mc rfl];exact⟨_,rfl⟩
   .simp only at hk
    rw[lk]at hk
    split at hk
    .rename_i e1
     rw[e1]at hp
     have:parts [47]=some []:=rfl
     rw[this]at hp;cases hp
    .split at hk
     .cases hk;rfl
     .exact h.own1 k m x hk hp
   .simp only at hm
    rw[lk,mc rfl]at hm
    cases hm
    rw[hbump];omega
  .rw[ma (fun x=>hl x.2)]
   have hs:∃ n,s.tree.lookup (47::c.home)=some n:=by
    cases e:s.tree.lookup (47::c.home)with
    | none=>rw[e]at hl;exact mt rfl hl
    | some n=>exact⟨n,rfl⟩
   refine⟨⟨h.qt,fun p hp=>?_,h.own1,fun n hn=>by have:=h.rt n hn;omega⟩,fun _=>hs⟩
   rcases amv p hp with hp | hp
   .exact h.at1 p hp
   .rw[hp];exact hs
 .rw[mc h0]
  refine⟨⟨h.qt,h.at1,h.own1,fun n hn=>by have:=h.rt n hn;omega⟩,fun hx=>?_⟩
  unfold wN at hx
  simp only at hx
  exact mt hx h0
def auA(i:wU b s)(hb:b<=33554432)(h:xb b s):xb (b+1) (doS s c).1:=by
 have ht:=ahe i.tbl
 have same:xb (b+1) s:=h.tbl z7 ht rfl rfl
 unfold doS
 split
 .exact h.tbl z7 ht apQ rfl
 split
 .unfold aeu
  exact h.of z7 ht rfl (auv i.tree z7 h.qt) (arB i.tree z7) (auz i.tree z7)
 split
 .unfold acq
  split
  .exact same
  .split
   .exact same
   .exact h.tbl z7 ht rfl rfl
 split
 .unfold uS
  split
  .exact same
  .split
   .exact same
   .split
    .exact same
    .exact h.tbl z7 ht rfl rfl
 .exact same
def ak3(i:wU b s)(hb:b<=33554432)(h:xb b s):xb (b+1) (vj s c).1:=by
 have ht:=ahe i.tbl
 have i':wU (b+1) s:=⟨i.tree.mono z7,i.tbl.mono z7,i.hub.mono z7,by have:=i.ep;omega,i.mem⟩
 have same:xb (b+1) s:=h.tbl z7 ht rfl rfl
 unfold vj
 split
 .exact(asU i hb h).1
 split
 .split
  .refine ak2 (b:=b+1) (h.tbl z7 ht apn rfl) z7 ?_ z7
   exact⟨i'.tree,ae8 i'.tbl,i'.hub,i'.ep,i'.mem⟩
  .exact same
 split
 .unfold aaM
  split
  .exact same
  .split
   .exact same
   .exact h.tbl z7 ht rfl rfl
 split
 .unfold aaN
  split
  .exact same
  split
  .exact same
  simp only
  have i1:wU b ({s with hub:=(yg s.hub c.key c.ack).1}:Sto):=⟨i.tree,i.tbl,uB i.hub,i.ep,i.mem⟩
  split
  .refine ak2 (b:=b+1) (h.tbl z7 ht apR rfl) z7 ?_ z7
   exact⟨i'.tree,acH i'.tbl,uB i'.hub,i'.ep,i'.mem⟩
  .have h1:xb b ({s with hub:=(yg s.hub c.key c.ack).1}:Sto):=h.tbl z7 ht rfl rfl
   have h2:=auA (c:=c) i1 hb h1
   refine h2.tbl z7 ?_ asS rfl
   exact ahe (akn (c:=c) i1 hb).tbl
 .exact same
end Zt
namespace G
open Go SL
variable{B:ZB}{ro I:AH}
def abU(B:ZB)(ro:AH)(u0 u1:Nat)(Q:Int->ZA->Int->Int->Int->Int->Int->Int->Sl->ZA->Bool->Int->Sl->AH->Prop)(u2:Sl)(I:AH):=
 ∃u3,qa ro I ((⟨u0,0,none⟩:Addr).add 12)=some (Sl.v u3)/\
 adu B ro u3 I fun u4 I=>
 stN ((⟨u0,0,none⟩:Addr).add 8) (fun I=>
 stN ((⟨u0,0,none⟩:Addr).add 12) (fun I=>
  ∃u5 u6 u7 u8 u9 u10 u11 u12 u13 u14 u15 u16 u17,qe ro I ⟨u0,0,none⟩ 0 [.int .i64 u5,.string u6,.int .i64 u7,.int .i64 u8,.int .i64 u9,.int .i64 u10,.int .i64 u11,.int .i64 u12,Sl.v u13,.string u14,.bool u15,.int .i64 u16,Sl.v u17]/\
  stN ⟨u1,0,none⟩ (fun I=>
  ∃u18 u19 u20 u21 u22 u23 u24 u25 u26 u27 u28 u29 u30,qe ro I ⟨u1,0,none⟩ 0 [.int .i64 u18,.string u19,.int .i64 u20,.int .i64 u21,.int .i64 u22,.int .i64 u23,.int .i64 u24,.int .i64 u25,Sl.v u26,.string u27,.bool u28,.int .i64 u29,Sl.v u30]/\
  Q u18 u19 u20 u21 u22 u23 u24 u25 u26 u27 u28 u29 u30 I) [.int .i64 u5,.string u6,.int .i64 u7,.int .i64 u8,.int .i64 u9,.int .i64 u10,.int .i64 u11,.int .i64 u12,Sl.v u13,.string u14,.bool u15,.int .i64 u16,Sl.v u17] 0 I) [Sl.v u4] 0 I) [Sl.v u2] 0 I
def uf(B:ZB)(ro:AH)(u0 u1:Nat)(u2:Sl)(Q:Int->ZA->Int->Int->Int->Int->Int->Int->Sl->ZA->Bool->Int->Sl->AH->Prop):(Sl×Int)->AH->((Sl×Int)->AH->Prop)->Prop:=fun⟨u3,u4⟩ I Y10=>
 if u4<(u2.len:Int)then
 ∃p5,u2.a=some p5/\(0:Int)<=u4/\u4<(u2.len:Int)/\
 ∃u6 u7 u8 u9 u10 u11,qe ro I (p5.add (Int.toNat u4*6)) 0 [.int .i64 u6,.string u7,Sl.v u8,.int .i64 u9,.bool u10,.bool u11]/\
 nw ro I (.cells #[.int .i64 0,.string ByteArray.empty,Sl.v (⟨none,0,0⟩:Sl),.int .i64 0,.bool false,.bool false] 72) fun u12 I=>
 stN ⟨u12,0,none⟩ (fun I=>
  ∃u13,qa ro I ((⟨u12,0,none⟩:Addr).add 2)=some (Sl.v u13)/\
  aef B ro u13 I fun u14 I=>
  stN ((⟨u12,0,none⟩:Addr).add 2) (fun I=>
  ∃u15 u16 u17 u18 u19 u20,qe ro I ⟨u12,0,none⟩ 0 [.int .i64 u15,.string u16,Sl.v u17,.int .i64 u18,.bool u19,.bool u20]/\
  nw ro I (.cells #[.int .i64 u15,.string u16,Sl.v u17,.int .i64 u18,.bool u19,.bool u20] 72) fun u21 I=>
  awp prog ro (Builtin.append_ #[54,54] 54 #[Sl.v u3,Sl.v (⟨some ⟨u21,0,none⟩,1,1⟩:Sl)]) (fun v I=> ∃(u22:Sl),v=Sl.v u22/\
   Y10 (u22,i64.wrap (u4+1)) I) I) [Sl.v u14] 0 I) [.int .i64 u6,.string u7,Sl.v u8,.int .i64 u9,.bool u10,.bool u11] 0 I
 else
 abU B ro u0 u1 Q u3 I
def aeZ(B:ZB)(ro:AH)(a0_0:Int)(a0_1:ZA)(a0_2 a0_3 a0_4 a0_5 a0_6 a0_7:Int)(a0_8:Sl)(a0_9:ZA)(a0_10:Bool)(a0_11:Int)(a0_12:Sl)(I:AH)(Q:Int->ZA->Int->Int->Int->Int->Int->Int->Sl->ZA->Bool->Int->Sl->AH->Prop):=
 nw ro I (.cells #[.int .i64 a0_0,.string a0_1,.int .i64 a0_2,.int .i64 a0_3,.int .i64 a0_4,.int .i64 a0_5,.int .i64 a0_6,.int .i64 a0_7,Sl.v a0_8,.string a0_9,.bool a0_10,.int .i64 a0_11,Sl.v a0_12] 57) fun u0 I=>
 nw ro I (.cells #[.int .i64 0,.string ByteArray.empty,.int .i64 0,.int .i64 0,.int .i64 0,.int .i64 0,.int .i64 0,.int .i64 0,Sl.v (⟨none,0,0⟩:Sl),.string ByteArray.empty,.bool false,.int .i64 0,Sl.v (⟨none,0,0⟩:Sl)] 57) fun u1 I=>
 ∃u2,qa ro I ((⟨u0,0,none⟩:Addr).add 8)=some (Sl.v u2)/\
 lfpD (uf B ro u0 u1 u2 Q) ((⟨none,0,0⟩:Sl),0) I
def amw{a0_0 a0_1 a0_2 a0_3 a0_4 a0_5 a0_6 a0_7 a0_8 a0_9 a0_10 a0_11 a0_12 Q}(h:Sep ro I->aeZ B ro a0_0 a0_1 a0_2 a0_3 a0_4 a0_5 a0_6 a0_7 a0_8 a0_9 a0_10 a0_11 a0_12 I Q):acB B ro a0_0 a0_1 a0_2 a0_3 a0_4 a0_5 a0_6 a0_7 a0_8 a0_9 a0_10 a0_11 a0_12 I Q:=by
 refine zb h func23 ntmps23 fun h=>?_;unfold aeZ at h;refine zw ?_;refine zA (wt rfl rfl) h fun u0 h=>?_;refine zAp (qT rfl yV) h fun u1 h=>?_;refine AW.seqJ (fun fr I=> ∃(u2:Sl),qo [(1,.pointer (some ⟨u0,0,none⟩)),(2,.pointer (some ⟨u1,0,none⟩)),(3,Sl.v u2)] fr/\abU B ro u0 u1 Q u2 I) ?_ ?_
 .rintro fr I ⟨u2,hl,h⟩;refine AW.weaken ?_ hl (HLe.refl _)
  unfold abU at h;refine zf mw aho ?_;refine zL mO h fun u3 h=>?_;refine zc func76 h ?_;rintro v I ⟨u4,rfl,h⟩;refine zf mw aoD ?_;refine zs aoD h fun I h=>?_;refine zf mw aho ?_;refine zsp aho h fun I h=>?_;obtain⟨u5,u6,u7,u8,u9,u10,u11,u12,u13,u14,u15,u16,u17,hc,h⟩:=h
  refine zl (wq rfl mw rfl yV rfl hc ?_)
  refine zsp yV h fun I h=>?_;obtain⟨u18,u19,u20,u21,u22,u23,u24,u25,u26,u27,u28,u29,u30,hc0,h⟩:=h
  exact xN results23 (wA (vN rfl mw rfl yV hc0) vM) ⟨_,_,_,_,_,_,_,_,_,_,_,_,_,rfl,h⟩
 refine zf mw aoD ?_;refine zL Lo h fun u31 h=>?_;refine zm (qC rfl rfl Lo rfl rfl) ?_;refine zw ?_;refine qi.loop (fr':=[(1,.pointer (some ⟨u0,0,none⟩)),(2,.pointer (some ⟨u1,0,none⟩)),(7,Sl.v u31),(8,.int .i64 (u31.len:Int)),(3,Sl.v (⟨none,0,0⟩:Sl)),(9,.int .i64 0)]) ?_ FL
 refine h (fun⟨u32,u33⟩ I=>qi _ _ _ _ _ _ [(1,.pointer (some ⟨u0,0,none⟩)),(2,.pointer (some ⟨u1,0,none⟩)),(7,Sl.v u31),(8,.int .i64 (u31.len:Int)),(3,Sl.v u32),(9,.int .i64 u33)] I) ?_
 rintro⟨u32,u33⟩ I Y10 hY10 h
 show AW _ _ _ _ _ _ _ _
 unfold uf at h;dsimp only at h;refine zw ?_;refine AW.seq ?_;refine zi h (fun h=>?_) fun h=>?_
 rotate_left
 .refine AW.exit ?_;refine zw ?_;refine qX ?_
  refine zw ?_;exact⟨_,FL,h⟩
 refine zw ?_;refine AW.seq ?_;refine zw ?_;obtain⟨p34,ha,h0,h1,h⟩:=h
 refine zm (wO rfl Lo aeL (ixL rfl ha) rfl h0 h1) ?_;obtain⟨u35,u36,u37,u38,u39,u40,hc,h⟩:=h
 refine zl (wq rfl mZ rfl aeL rfl hc ?_)
 refine zA (qT rfl aeL) h fun u41 h=>?_;refine zs aeL h fun I h=>?_;refine zf mZ wg ?_;refine zL mn h fun u42 h=>?_;refine zc func16 h ?_;rintro v I ⟨u43,rfl,h⟩;refine zf mZ wg ?_;refine zsp wg h fun I h=>?_;obtain⟨u44,u45,u46,u47,u48,u49,hc,h⟩:=h
 refine zl (wq rfl mZ rfl aeL rfl hc ?_)
 refine zA (wj (vs:=[(0,.agg #[.int .i64 u44,.string u45,Sl.v u46,.int .i64 u47,.bool u48,.bool u49])]) (cs:= #[.int .i64 u44,.string u45,Sl.v u46,.int .i64 u47,.bool u48,.bool u49]) rfl Lo aeL y1 rfl rfl) h fun u50 h=>?_;refine zl (vZ (s:=Builtin.append_ #[54,54] 54 #[Sl.v u32,Sl.v (⟨some ⟨u50,0,none⟩,1,1⟩:Sl)]) rfl rfl (fun _=>rfl) (qk _ h ?_))
 rintro v I ⟨u51,rfl,h⟩;refine zw ?_;refine qi.head (fr':=[(1,.pointer (some ⟨u0,0,none⟩)),(2,.pointer (some ⟨u1,0,none⟩)),(7,Sl.v u31),(8,.int .i64 (u31.len:Int)),(3,Sl.v u51),(9,.int .i64 (i64.wrap (u33+1)))]) ?_ FL
 exact hY10 _ _ h
end G
namespace Zt
open Go SL G Pa Wi
variable{B:ZB}{ro I I':AH}{tag tag':Nat->Nat}
variable{l ws:List Int}{C R:List Nat}{W q:Nat}{a0 s:Sl}
def anU{Q:ZO->Int->AH->Prop}(h:SL.qJ ro I s (l.map vI))(hl:l.length<=1048576)(hr:aa9 l=true)
  (hQ:∀ W tag' I',StepS CN ro tag I tag' I'->uV tag' I' W (Sto.new l)->Q (some ⟨W,0,none⟩) 0 I'):abs B ro s I Q:=by
 refine aj2 fun hs=>?_
 unfold ae9
 refine aqv h hl ?_
 rw[hr,ma y0]
 refine ahb (tag:=tag) 118 h hs (j4 hl) (by simp[qg]) fun ms tag1 I1 st1 r1=>?_
 refine arY (tag:=tag1) 10 y1 y1 fun T tag2 I2 st2 t2=>?_
 refine ah5 fun hs2=>?_
 unfold adq
 refine ahR kS (tag:=tag2) 119 hs2 fun M tag3 I3 st3 m3=>?_
 refine qf (tag:=tag3) 55 (st3 []).sep fun Tt tag4 I4 st4 r4=>?_
 refine aj4 fun hs4=>?_
 unfold afa
 refine ahR kSI (tag:=tag4) 126 hs4 fun Mh tag5 I5 st5 m5=>?_
 refine qf (tag:=tag5) 62 (st5 []).sep fun Th tag6 I6 st6 r6=>?_
 refine qf (tag:=tag6) 54 (st6 []).sep fun W tag7 I7 st7 r7=>?_
 have k6:qd [] ro tag4 I4 tag7 I7:=((st5 []).trans (st6 [])).trans (st7 [])
 have k3:qd [] ro tag3 I3 tag7 I7:=(st4 []).trans k6
 have k2:qd [] ro tag2 I2 tag7 I7:=(st3 []).trans k3
 have k5:qd [] ro tag5 I5 tag7 I7:=(st6 []).trans (st7 [])
 refine hQ W tag7 I7 (((st1 []).s y0).trans ((st2.s y0).trans (k2.s y0))) ⟨T,Tt,Th,ms,r7,?_,t2.keep k2,⟨M,[],r4.keep k6,pc.nil (m3.keep k3)⟩,⟨Mh,[],r6.keep (st7 []),pc.nil (m5.keep k5)⟩⟩
 exact(r1.keepC st2).keep k2
def apS{Q:Sl->AH->Prop}(q:Nat)(h:SL.qJ ro I a0 (ws.map vI))(hl:ws.length<=1073741824)
  (hQ:∀ s tag' I',qd [q] ro tag I tag' I'->Row tag' I' q 3 s (ws.map vI)->Q s I'):adu B ro a0 I Q:=by
 refine akC fun hs=>?_
 unfold adF
 have hln:a0.len=ws.length:=by rw[h.1,mg]
 rw[hln]
 refine⟨⟨z7,z7,z7,z7⟩,?_⟩
 rw[mq]
 intro b hro hb
 have st1:∀ R,qd R ro tag I (setTag tag b q) (upd I b (.cells (aaV (.int .i64 0) (ws.length*1)) 3)):=fun R=>qd.fresh hs hro hb
 have r1:Row (setTag tag b q) (upd I b (.cells (aaV (.int .i64 0) (ws.length*1)) 3)) q 3 ⟨some ⟨b,0,none⟩,ws.length,ws.length⟩ (List.replicate ws.length (vI 0)):=by
  refine .inr ⟨b,_,rfl,by simp[setTag],qE _ _ _,y0,by rw[alU];simp,mR _,fun i hi=>?_⟩
  simp at hi
  rw[anm _ rfl _ _ z7,LC,mc hi]
 have h1:SL.qJ ro _ a0 (ws.map vI):=h.step (st1 [])
 have:=ajF (P:=prog) (ro:=ro) (t:=55) (t2:=55) (ty:=3) (m:=0) (l2:=ws.map vI) (Q:=fun v I=> ∃(x9_2:Int),v= .int .i64 x9_2/\Q ⟨some ⟨b,0,none⟩,ws.length,ws.length⟩ I) r1 (st1 []).sep j0 arp (qJ.src h1) y0 (by simp[qg]) (fun I2 st2 r2=>?_)
 .rw[pI]at this
  exact this
 .rw[Lm,nF]at r2
  exact⟨_,rfl,hQ _ (setTag tag b q) I2 ((st1 [q]).trans st2) r2⟩
abbrev axg:List Value:=[.int .i64 0,.string ByteArray.empty,.int .i64 0,.int .i64 0,.int .i64 0,.int .i64 0,.int .i64 0,.int .i64 0,Sl.v (⟨none,0,0⟩:Sl),.string ByteArray.empty,.bool false,.int .i64 0,Sl.v (⟨none,0,0⟩:Sl)]
def aqw(c:wM)(os ms:Sl):∀ v∈ai6 c os ms,qg v=true:=by simp[qg,Sl.v]
abbrev C17:List Nat:=[0,11,16,22,24,28]
structure amx(ro:AH)(os ms:Sl)(c:wM):Prop where
 ops:alk ro os c.ops
 mem:SL.qJ ro (fun _=>none) ms (c.members.map vI)
def aga{ops:List MOp}(h:abR tag I q s ops)(k:qd R ro tag I tag' I')(hq:q∉R)(h6:6∉R):abR tag' I' q s ops:=by
 obtain⟨ds,h1,h2,h3⟩:=h
 exact⟨ds,h1,ql.keep h2 k hq,fun i o d ho hd=>(h3 i o d ho hd).keep k h6⟩
def ak4{os ms:Sl}{c:wM}{Q:Int->ZA->Int->Int->Int->Int->Int->Int->Sl->ZA->Bool->Int->Sl->AH->Prop}(h:amx ro os ms c)(hl:c.ops.length<=2199023255488)(hml:c.members.length<=1048576)
  (hQ:∀ os' ms' tag' I',StepS C17 ro tag I tag' I'->agP tag' I' 24 28 os' ms' c->Q c.kind (S c.home) c.session c.req c.nonce c.lease c.beats c.ack os' (S c.path) c.watch c.epoch ms' I'):
  acB B ro c.kind (S c.home) c.session c.req c.nonce c.lease c.beats c.ack os (S c.path) c.watch c.epoch ms I Q:=by
 refine amw fun hsep=>?_
 unfold aeZ
 refine qf (tag:=tag) 11 hsep fun X tag1 I1 st1 r1=>?_
 refine qf (tag:=tag1) 16 (st1 []).sep fun Y tag2 I2 st2 r2=>?_
 have x2:=r1.keep (st2 [])
 refine⟨os,(x2.read (st2 []).sep).2.2 _ rfl 8 _ rfl,?_⟩
 have hln:=h.ops.1
 suffices∀m j s tag3 I3,j+m=c.ops.length->StepS C17 ro tag I tag3 I3->Row tag3 I3 11 57 ⟨some ⟨X,0,none⟩,13,13⟩ (ai6 c os ms)->Row tag3 I3 16 57 ⟨some ⟨Y,0,none⟩,13,13⟩ axg->abR tag3 I3 24 s (c.ops.take j)->lfpD (uf B ro X Y os Q) (s,(j:Int)) I3 from
  this _ 0 ⟨none,0,0⟩ tag2 I2 (ml _) (((st1 []).trans (st2 [])).s y0) x2 r2 ⟨[],rfl,ql.nil _ _ _,fun i o d h=>by cases h⟩
 intro m
 induction m with
 | zero=>
  intro j s tag3 I3 hj st3 x3 y3 h3
  refine lfpD.intro ?_
  unfold uf
  simp only
  rw[ma z7]
  unfold abU
  rw[mD z7]at h3
  refine⟨ms,(x3.read st3.sep).2.2 _ rfl 12 _ rfl,?_⟩
  refine apS (tag:=tag3) 28 h.mem.keep z7 fun ms' tag4 I4 st4 m4=>?_
  have x4:=x3.keep st4
  have y4:=y3.keep st4
  have o4:=aga h3 st4 y0 y0
  refine x4.stAt [Sl.v s] 8 st4.sep y0 (by simp[qg,Sl.v]) fun I5 st5 x5=>?_
  refine x5.stAt [Sl.v ms'] 12 st5.sep y0 (by simp[qg,Sl.v]) fun I6 st6 x6=>?_
  have x7:Row tag4 I6 11 57 ⟨some ⟨X,0,none⟩,13,13⟩ (ai6 c s ms'):=x6
  have k6:qd [11] ro tag4 I4 tag4 I6:=st5.trans st6
  refine⟨_,_,_,_,_,_,_,_,_,_,_,_,_,qz (x7.read st6.sep) rfl,?_⟩
  refine(y4.keep k6).stPre (ai6 c s ms') 0 _ I6 st6.sep y0 (aqw _ _ _) fun I7 st7 y7=>?_
  have y8:Row tag4 I7 16 57 ⟨some ⟨Y,0,none⟩,13,13⟩ (ai6 c s ms'):=y7
  refine⟨_,_,_,_,_,_,_,_,_,_,_,_,_,qz (y8.read st7.sep) rfl,?_⟩
  exact hQ s ms' tag4 I7 (st3.trans ((st4.s y0).trans ((k6.s y0).trans (st7.s y0)))) ⟨aga (aga o4 k6 y0 y0) st7 y0 y0,(m4.keep k6).keep st7⟩
 | succ m ih=>
  intro j s tag3 I3 hj st3 x3 y3 h3
  have hjl:j<c.ops.length:=by omega
  obtain⟨q,ds,hq,hc,hrd,hdl⟩:=(h.ops.m I3).2 j c.ops[j] (md hjl)
  refine lfpD.intro ?_
  unfold uf
  simp only
  rw[mc z7]
  refine⟨q,hq,z7,z7,c.ops[j].kind,S c.ops[j].path,ds,c.ops[j].ver,c.ops[j].eph,c.ops[j].seq,by rw[mq];exact hc,?_⟩
  refine kz (tag:=tag3) 22 st3.sep rfl (by simp[qg,Sl.v]) fun x tag4 I4 st4 r4=>?_
  refine⟨ds,(r4.read (st4 []).sep).2.2 _ rfl 2 _ rfl,?_⟩
  refine atU (tag:=tag4) 6 hrd.keep (st4 []).sep j2 (by simp[qg]) fun s' tag5 I5 st5 r5=>?_
  refine(r4.keep (st5 [])).st (i:=2) (st5 []).sep rfl y0 rfl fun I6 st6 r6=>?_
  refine⟨c.ops[j].kind,S c.ops[j].path,s',c.ops[j].ver,c.ops[j].eph,c.ops[j].seq,Row.cellsAt r6 st6.sep,?_⟩
  refine qf (tag:=tag5) 0 st6.sep fun y tag7 I7 st7 r7=>?_
  have k37:qd [22] ro tag3 I3 tag7 I7:=((st4 _).trans (st5 _)).trans (st6.trans (st7 _))
  obtain⟨dd,d1,d2,d3⟩:=aga h3 k37 y0 y0
  have hlz:(List.zipWith opV (c.ops.take j) dd).length=j:=by rw[List.length_zipWith,d1,Nat.min_self,nA];omega
  refine jn (l2:=[opV c.ops[j] s']) d2 (st7 []).sep (Row.readW1 r7 (st7 []).sep rfl y1) (t:=54) j0 aeL rfl (by simp[opV,qg,Sl.v]) (by rw[hlz];simp;omega) y1 fun sn tag8 I8 st8 r8=>?_
  have st8':=st8 [24] (.inr y0)
  refine⟨sn,rfl,?_⟩
  rw[Pa.inc j z7]
  refine ih (j+1) sn tag8 I8 z7 (st3.trans ((k37.s y0).trans (st8'.s y0))) ((x3.keep k37).keep st8') ((y3.keep k37).keep st8') ?_
  have etk:c.ops.take (j+1)=c.ops.take j++[c.ops[j]]:=by rw[mK,md hjl];try rfl
  rw[etk]
  refine⟨dd++[s'],by rw[mA,mA,d1];try rfl,?_,fun i o d ho hd=>?_⟩
  .rw[List.zipWith_append d1.symm];exact r8
  .rcases mM i (c.ops.take j).length with h | h
   .rw[mQ h]at ho
    rw[mQ z7]at hd
    exact(d3 i o d ho hd).keep st8'
   .rw[mU h]at ho
    rw[mU z7,d1]at hd
    cases hz:i - (c.ops.take j).length with
    | zero=>
     rw[hz]at ho hd
     cases ho;cases hd
     exact(((r5.keep st6).keep (st7 [])).keep st8').held
    | succ k=>rw[hz]at ho;cases ho
def uV.keepS{s:Sto}(h:uV tag I W s)(k:StepS C ro tag I tag' I')(hC:∀ x∈DSt,x∉C:=by decide):uV tag' I' W s:=by
 obtain⟨T,Tt,Th,ms,h⟩:=h.in
 exact(h.keepS k hC).at
def apo:wU 0 (Sto.new [0]):=⟨atL,⟨by simp[Sto.new],(fun p h=>by cases h),by simp[Sto.new]⟩,⟨by simp[Sto.new],(fun p h=>by cases h),by simp[Sto.new]⟩,⟨by simp[Sto.new],by simp[Sto.new]⟩,by simp[Sto.new]⟩
def apq{k:Str}{n:Nd}(h:St.new.lookup k=some n):k=[47]/\n=⟨0,0,0,0,[]⟩:=by
 unfold St.new at h
 rw[na]at h
 by_cases c:k=[47]
 .subst c;simp at h;exact⟨rfl,h.symm⟩
 .have:(k == [47])=false:=by simpa using c
  rw[this]at h;cases h
def amy:xb 0 (Sto.new [0]):=by
 refine⟨awv,(fun p h=>by cases h),fun k n x hn hp=>?_,fun n hn=>?_⟩
 .obtain⟨_,rfl⟩:=apq hn;rfl
 .obtain⟨_,rfl⟩:=apq hn;simp
structure amz(ro:AH)(y:wM×Sl×Sl):Prop where
 r:amx ro y.2.1 y.2.2 y.1
 small:aj9 y.1
 ops:y.1.ops.length<=1048576
 mem:y.1.members.length<=1048576
abbrev apr(y:wM×Sl×Sl):List Value:=ai6 y.1 y.2.1 y.2.2
end Zt
namespace Zt
open Go SL Pa Wi
variable{l:List Str}{k:Str×Int}{t:Tbl}
def auB{h:xL}{s:yf}(h1:qj t k.1=some h)(h2:1<=k.2)(h3:k.2<=h.last)(h4:qj h.live k.2=some s):xM t k=(0,some s):=by
 unfold xM
 rw[h1]
 simp only
 rw[ma z7,h4]
def arC(t:Tbl)(k:Str×Int):Prop:= ∃s,xM t k=(0,some s)
def asV:arC t k↔∃ h s,qj t k.1=some h/\1<=k.2/\k.2<=h.last/\qj h.live k.2=some s:=by
 constructor
 .rintro⟨s,hs⟩
  obtain⟨_,h,h1,h2,h3,h4⟩:=af6 hs
  exact⟨h,s,h1,h2,h3,h4⟩
 .rintro⟨h,s,h1,h2,h3,h4⟩
  exact⟨s,auB h1 h2 h3 h4⟩
def ak5{req:Int}(h:(zu t k req).2.2=0):arC t k:=by
 unfold zu at h
 rcases pK t k with⟨s,e⟩ | ⟨x,hx,e⟩
 .exact⟨s,e⟩
 .rw[e]at h;simp only at h;rcases hx with rfl | rfl<;>cases h
def amA{b:Nat}(i:vV b t)(h:arC t k):wb k.1=true:=by
 obtain⟨hh,x,h1,_⟩:=asV.1 h
 exact(agG i h1).1
def arD(h:l.Pairwise fun a b=>b<a):l.Nodup:=Pj (fun{a b} (hab:b<a) (e:a=b)=>acD b (by rw[e]at hab;exact hab)) h
def asW(h:l.Pairwise fun a b=>a<b):l.Nodup:=Pj (fun{a b} (hab:a<b) (e:a=b)=>acD b (by rw[e]at hab;exact hab)) h
end Zt
namespace Zt
open Go SL G Pa Wi
variable{B:ZB}{ro I I':AH}{tag tag':Nat->Nat}{L:List Nat}
variable{W:Nat}{s:Sto}
def uV.outR(h:uV tag I W s)(hL:∀ x∈L,x%64∉DSt):uV tag (SL.zE tag L I) W s:=by
 obtain⟨T,Tt,Th,ms,o,m,t,⟨M,bs,b⟩,⟨M2,bs2,hh⟩⟩:=h
 have no:∀ y,y%64∈DSt->y∉L:=fun y hy hm=>hL y hm hy
 have sub:∀ C:List Nat,(∀x∈C,x∈DSt)->∀ x∈L,x%64∉C:=fun C hC x hx hm=>hL x hx (hC _ hm)
 refine⟨T,Tt,Th,ms,o.outR (no 54 y1),m.outR (no 118 y1),t.outR (fun x hx=>⟨fun e=>hL x hx (by rw[e];decide),fun e=>hL x hx (by rw[e];decide)⟩),⟨M,bs,b.outR (sub _ y1)⟩,⟨M2,bs2,hh.outR (sub _ y1)⟩⟩
def uV.backR{tag1:Nat->Nat}{τ:AH}(h:uV tag1 τ W s)(hd:qL (SL.inR tag L I) τ):uV (tagB tag tag1 L I) (join (SL.inR tag L I) τ) W s:=by
 obtain⟨T,Tt,Th,ms,o,m,t,⟨M,bs,b⟩,⟨M2,bs2,hh⟩⟩:=h
 exact⟨T,Tt,Th,ms,o.backR hd,m.backR hd,t.backR hd,⟨M,bs,b.backR hd⟩,⟨M2,bs2,hh.backR hd⟩⟩
end Zt
namespace Zt
open Go SL G Pa Wi
variable{B:ZB}{ro I I':AH}{tag tag':Nat->Nat}
def asX{b c:Nat}{s:Sto}(h:wU b s)(hc:b<=c):wU c s:=⟨h.tree.mono z7,h.tbl.mono hc,h.hub.mono hc,by have:=h.ep;omega,h.mem⟩
end Zt
namespace Zt
open Go SL Pa Wi
variable{g h:Hub}{kind lease n nonce owner qb qn req:Int}{e:Int×Str}{ws:List Int}{ops:List MOp}{o:MOp}{b b':Nat}{a st:St}{s:Sto}{home p x:Str}{k k':Str×Int}{t u:Tbl}{m:kN}{c:wM}{d:xR}
def ug(h0:0<=n)(h1:n<=4611686018427387903):qr n=true:=by unfold qr;simp;omega
def acI:vv Rep.zero:=by
 unfold vv Rep.zero
 exact⟨y1,y1,y1,y1,y1,y1,y1,y1,y1,y1,y1,y1,(fun y h=>by cases h),(fun y h=>by cases h)⟩
def aao{e:Int}(h0:0<=e)(h1:e<=200):vv (wN e):=by
 obtain⟨a1,a2,a3,a4,a5,a6,a7,a8,a9,b0,b1,b2,b3,b4⟩:=acI
 exact⟨a1,a2,a3,a4,a5,ug (n:=e) h0 z7,a7,a8,a9,b0,b1,b2,b3,b4⟩
def akv(c:wM):0<=atE c/\atE c<=200:=by
 unfold atE
 split
 .omega
 .split<;>omega
def ai8(h:Hub)(k:Str×Int)(m:kN):0<=(xH h k m).2/\(xH h k m).2<=200:=by
 have hc:0<=abo k m/\abo k m<=200:=by
  unfold abo
  split
  .omega
  .split
   .omega
   .split<;>omega
 unfold xH
 split
 .exact hc
 .split
  .simp
  .simp
def asY(hk:(st.map (·.1)).Nodup)(hp:qq p=some home):(af5 st p).length<=(zh st home).1:=by
 rw[<-af4 (zZ st) home]
 unfold af5 xY zh
 simp only
 have key:∀ l:St,((l.map (·.1)).filterMap fun k=>if qw k=some p then base k else none).length<=l.countP fun q=>decide (qq q.1=some home):=by
  intro l
  induction l with
  | nil=>simp
  | cons q l ih=>
   rw[mF,LT,List.countP_cons]
   by_cases c:qw q.1=some p
   .rw[mc c,mc (by simpa using afv c hp)]
    cases base q.1 with
    | none=>simp only;omega
    | some x=>simp only[mz];omega
   .rw[ma c]
    simp only
    omega
 exact key _
def aww(i:wU b s)(hb:b<=33554432)(hq:Qt s.tree)(hn:wb c.home=true):vv (doS s c).2/\(doS s c).2.events=[]:=by
 have z:=acI
 obtain⟨a1,a2,a3,a4,a5,a6,a7,a8,a9,b0,b1,b2,b3,b4⟩:=acI
 unfold doS
 split
 .exact⟨z,rfl⟩
 split
 .unfold aeu
  obtain⟨⟨h1,h2⟩,h3,h4,h5⟩:=aiU (home:=c.home) (owner:=c.session) (qn:=64) (qb:=8192) (ops:=c.ops) i.tree z7
  have h3':=ug h3.1 z7
  exact⟨⟨h2,a2,a3,h4,by simp only;omega,h3',a7,a8,a9,b0,b1,b2,fun y hy=>by have:=h1 y hy;exact ug this.2.1 z7,b4⟩,rfl⟩
 split
 .unfold acq
  split
  .exact⟨aao (akv c).1 (akv c).2,rfl⟩
  .split
   .exact⟨aao (ai8 _ _ _).1 (ai8 _ _ _).2,rfl⟩
   .simp only
    split
    .exact⟨aao z7 z7,rfl⟩
    .rename_i n hn
     have h1:=i.tree.ver _ n hn
     have h2:=i.tree.own _ n hn
     have h3:=i.tree.inv.ctr _ n hn
     have h4:=i.tree.inv.ctr0 hn
     have h5:=i.tree.inv.kids _ n hn
     have e1:=ug h1.1 z7
     have e2:=ug h4 z7
     have e3:=ug h2.1 z7
     have e4:=ug (n:=n.kids) z7 z7
     exact⟨⟨a1,a2,a3,a4,a5,a6,a7,e1,e2,e3,e4,b2,b3,b4⟩,rfl⟩
 split
 .unfold uS
  split
  .exact⟨aao (akv c).1 (akv c).2,rfl⟩
  .rename_i ha
   have hp:=aln ha hn
   split
   .exact⟨aao z7 z7,rfl⟩
   .split
    .exact⟨aao (ai8 _ _ _).1 (ai8 _ _ _).2,rfl⟩
    .have h1:=asY i.tree.inv.keys hp
     have h2:=(hq c.home).1
     exact⟨⟨a1,by simp only;omega,a3,a4,a5,a6,a7,a8,a9,b0,b1,b2,b3,b4⟩,rfl⟩
 .exact⟨z,rfl⟩
def jg:uv Rep.zero:=⟨by simp[Rep.zero],(fun y h=>by cases h),(fun y h=>by cases h),(fun y h=>by cases h)⟩
def ad2{e:Int}(h0:0<=e)(h1:e<=200):vv (wN e)/\uv (wN e):=⟨aao h0 h1,jg.1,jg.2,jg.3,jg.4⟩
def auC(h0:0<=n)(h1:n<=4611686018427387903):vv {Rep.zero with session:=n}/\uv {Rep.zero with session:=n}:=by
 obtain⟨a1,a2,a3,a4,a5,a6,a7,a8,a9,b0,b1,b2,b3,b4⟩:=acI
 exact⟨⟨a1,a2,a3,a4,a5,a6,ug (n:=n) h0 h1,a8,a9,b0,b1,b2,b3,b4⟩,jg.1,jg.2,jg.3,jg.4⟩
def asZ(h0:0<=n)(h1:n<=4611686018427387903):vv {Rep.zero with epoch:=n}/\uv {Rep.zero with epoch:=n}:=by
 obtain⟨a1,a2,a3,a4,a5,a6,a7,a8,a9,b0,b1,b2,b3,b4⟩:=acI
 exact⟨⟨a1,a2,a3,a4,a5,a6,a7,a8,a9,b0,b1,ug (n:=n) h0 h1,b3,b4⟩,jg.1,jg.2,jg.3,jg.4⟩
def aqx{x:Rep}(i:ku b h)(hb:b<=33554440)(ok:vv x)(sm:uv x):vv {x with events:=ja h k}/\uv {x with events:=ja h k}:=by
 have q:(ja h k).length<=32/\∀ e∈ja h k,(1<=e.1/\e.1<=b)/\(1<=e.2.1/\e.2.1<=4)/\e.2.2.length<=128:=by
  cases e:qj h k with
  | none=>
   have hq:ja h k=[]:=by unfold ja;rw[e]
   rw[hq]
   exact⟨y0,fun e he=>by cases he⟩
  | some d=>
   have o:=i.ok _ (xt e)
   have r:d.events.length+d.marks.length<=32:=o.room
   have l:0<=d.last/\d.last+d.marks.length<=b:=o.last
   have hq:ja h k=d.events:=by unfold ja;rw[e]
   rw[hq]
   exact⟨z7,fun y hy=>by have:(1<=y.1/\y.1<=d.last)/\(1<=y.2.1/\y.2.1<=4)/\y.2.2.length<=128:=o.evs y hy;omega⟩
 obtain⟨a1,a2,a3,a4,a5,a6,a7,a8,a9,b0,b1,b2,b3,b4⟩:=ok
 exact⟨⟨a1,a2,q.1,a4,a5,a6,a7,a8,a9,b0,b1,b2,b3,fun y hy=>by have:=q.2 y hy;exact⟨ug z7 z7,ug z7 z7⟩⟩,sm.1,sm.2,sm.3,fun y hy=>by have:=q.2 y hy;omega⟩
def auD(i:vV b t):(0<=(wX t home nonce lease).2.1/\(wX t home nonce lease).2.1<=b+1)/\0<=(wX t home nonce lease).2.2/\(wX t home nonce lease).2.2<=200:=by
 have hl:(0<=(qP t home).last/\(qP t home).last<=b)/\∀ p∈(qP t home).live,1<=p.1/\p.1<=(qP t home).last:=by
  unfold qP
  cases e:qj t home with
  | none=>exact⟨⟨y0,y0⟩,fun p h=>by cases h⟩
  | some h=>exact⟨((i.ok _ (xt e)).2.last),(i.ok _ (xt e)).2.rng⟩
 unfold wX
 split
 .simp only;omega
 split
 .simp only;omega
 split
 .simp only;omega
 split
 .rename_i p hp
  have:=hl.2 p (List.mem_of_find?_eq_some hp)
  simp only;omega
 .split
  .simp only;omega
  .simp only;omega
def apT(i:vV b t):(zu t k req).1.length<=1048576/\0<=(zu t k req).2.2/\(zu t k req).2.2<=200:=by
 unfold zu
 rcases pK t k with⟨x,e⟩ | ⟨x,hx,e⟩
 .rw[e];simp only
  obtain⟨_,h,g1,g2,g3,g4⟩:=af6 e
  have:=((i.ok _ (xt g1)).2.ok _ (xt g4)).reply
  split
  .simp
  .split
   .exact⟨this,y0,y0⟩
   .split<;>simp
 .rw[e];simp only
  rcases hx with rfl | rfl<;>simp
def amB(i:wU b s)(hb:b<=33554432)(hh:xb b s):vv (vj s c).2/\uv (vj s c).2:=by
 have Z:vv Rep.zero/\uv Rep.zero:=⟨acI,jg⟩
 unfold vj
 split
 .unfold abS
  obtain⟨r1,r2⟩:=auD (home:=c.home) (nonce:=c.nonce) (lease:=c.lease) i.tbl
  split
  .exact ad2 r2.1 r2.2
  .exact auC r1.1 z7
 split
 .split
  .exact Z
  .exact ad2 z7 z7
 split
 .unfold aaM
  split
  .exact ad2 z7 z7
  .split
   .exact ad2 z7 z7
   .have:=i.ep
    exact asZ z7 z7
 split
 .unfold aaN
  have br:=apT (k:=c.key) (req:=c.req) i.tbl
  split
  .exact ad2 br.2.1 br.2.2
  rename_i hbe
  have hnm:=amA i.tbl (ak5 (j4 hbe))
  split
  .have g:vv ((uT (zu s.tbl c.key c.req).1).getD Rep.zero)/\uv ((uT (zu s.tbl c.key c.req).1).getD Rep.zero):=by
    cases e:uT (zu s.tbl c.key c.req).1 with
    | none=>exact Z
    | some x=>exact⟨asy e,asD e br.1⟩
   exact aqx i.hub z7 g.1 g.2
  simp only
  split
  .exact Z
  .have i1:wU b ({s with hub:=(yg s.hub c.key c.ack).1}:Sto):=⟨i.tree,i.tbl,uB i.hub,i.ep,i.mem⟩
   obtain⟨ok,_⟩:=aww (c:=c) i1 hb hh.qt hnm
   have t:=alr (c:=c) i1 hb
   have i7:wU (b+1) _:=akn (c:=c) i1 hb
   exact aqx i7.hub z7 ok ⟨by have:=t.data;omega,fun y hy=>by have:=t.res y hy;omega,fun y hy=>by have:=t.names y hy;omega,fun y hy=>by have:=t.evs y hy;omega⟩
 .exact ad2 z7 z7
structure arE(home:Str)(w w':ph):Prop where
 st:Loc home w.st w'.st
 res:w.res=w'.res
 eff:w.eff=w'.eff
def auE{w w':ph}(hw:qQ b w.st)(hw':qQ b' w'.st)(hb:b<=4398046511103)(hb':b'<=4398046511103)(L:arE home w w'):
  (doE home owner qn qb w o).1=(doE home owner qn qb w' o).1/\arE home (doE home owner qn qb w o).2 (doE home owner qn qb w' o).2:=by
 by_cases hc:wT home o=0
 .obtain⟨h1,h2⟩:=aum (owner:=owner) hc hw.inv.keys hw'.inv.keys L.st
  have hu:=aka (aeS (owner:=owner) (o:=o) hw hb).inv.keys (aeS (owner:=owner) (o:=o) hw' hb').inv.keys h2
  have ho:aer (vT owner w'.st o).1 home qn qb o.kind=aer (vT owner w.st o).1 home qn qb o.kind:=by unfold aer;rw[hu]
  unfold doE
  rw[<-h1,ho,ma (show¬wT home o≠0 by simpa using hc),ma (show¬wT home o≠0 by simpa using hc)]
  split
  .exact⟨rfl,h2,L.res,L.eff⟩
  .split
   .exact⟨rfl,h2,L.res,L.eff⟩
   .exact⟨rfl,h2,by simp only;rw[L.res],by simp only;rw[L.eff]⟩
 .unfold doE
  rw[mc hc,mc hc]
  exact⟨rfl,L⟩
def apU:∀ {os:List MOp} {i b b':Nat} {w w':ph},qQ b w.st->qQ b' w'.st->b+os.length<=4398046511103->b'+os.length<=4398046511103->arE home w w'->
  (∃x,zt home owner qn qb os i w= .inl x/\zt home owner qn qb os i w'= .inl x)\/∃ v v',zt home owner qn qb os i w= .inr v/\zt home owner qn qb os i w'= .inr v'/\arE home v v':=by
 intro os
 induction os with
 | nil=>intro i b b' w w' h1 h2 _ _ L;exact .inr ⟨w,w',rfl,rfl,L⟩
 | cons o os ih=>
  intro i b b' w w' h1 h2 hb hb' L
  simp only[mz]at hb hb'
  obtain⟨e1,e2⟩:=auE (owner:=owner) (qn:=qn) (qb:=qb) (o:=o) h1 h2 z7 z7 L
  unfold zt
  rw[<-e1]
  split
  .exact .inl ⟨_,rfl,rfl⟩
  .exact ih (aeT h1 z7) (aeT h2 z7) z7 z7 e2
def apV{c:St}(ha:qQ b a)(hc:qQ b' c)(hb:b<=4398046511000)(hb':b'<=4398046511000)(L:Loc home a c):
  (qR a home owner qn qb ops).err=(qR c home owner qn qb ops).err/\(qR a home owner qn qb ops).bad=(qR c home owner qn qb ops).bad/\(qR a home owner qn qb ops).res=(qR c home owner qn qb ops).res/\(qR a home owner qn qb ops).eff=(qR c home owner qn qb ops).eff/\Loc home (qR a home owner qn qb ops).st (qR c home owner qn qb ops).st:=by
 unfold qR
 split
 .exact⟨rfl,rfl,rfl,rfl,L⟩
 .split
  .exact⟨rfl,rfl,rfl,rfl,L⟩
  .rcases apU (home:=home) (owner:=owner) (qn:=qn) (qb:=qb) (os:=ops) (i:=0) (w:=⟨srt a,[],[]⟩) (w':=⟨srt c,[],[]⟩) (adK ha) (adK hc) z7 z7 ⟨fun k hk=>by simp only;rw[af9 ha.inv.keys,af9 hc.inv.keys];exact L k hk,rfl,rfl⟩with⟨x,e1,e2⟩ | ⟨v,v',e1,e2,e3⟩
   .rw[e1,e2];exact⟨rfl,rfl,rfl,rfl,L⟩
   .rw[e1,e2];exact⟨rfl,rfl,e3.res,e3.eff,e3.st⟩
def avO{w:ph}(h:∀ e∈w.eff,qq e.2=some home):∀ e∈(doE home owner qn qb w o).2.eff,qq e.2=some home:=by
 by_cases hc:wT home o=0
 .obtain⟨h1,h2⟩:=afc hc
  unfold doE
  rw[ma (j4 hc)]
  split
  .exact h
  .rename_i h0
   split
   .exact h
   .simp only
    split
    .exact h
    .intro e he
     rcases mv.1 he with he | he
     .exact h e he
     .rw[mr.1 he]
      simp only
      split
      .rename_i k1
       have hq:(vT owner w.st o).2.2.2=0:=by simpa using h0
       unfold vT at hq⊢
       rw[mc k1]at hq⊢
       simp only at hq⊢
       have hout:=aml (d:=o.data) (a:=w.st) (o:=if o.eph then owner else 0) (seq:=o.seq) (h2 z7)
       rcases ahE w.st o.path o.data (if o.eph then owner else 0) o.seq with⟨e,hne,he⟩ | ⟨q,u,n,he,hu,_,_,hqn,_⟩
       .rw[he]at hq;exact mt hq hne
       .rw[he]
        simp only
        refine np fun hh=>?_
        have:=hout q hh
        rw[he]at this
        simp only at this
        have h3:=aku (st:=w.st++[(q,(⟨0,0,if o.eph then owner else 0,0,o.data⟩:Nd))]) (u:=u) (f:=jL) (fun n=>rfl) q
        rw[this,hqn,jv,hqn]at h3
        simp at h3
      .exact h1
 .unfold doE
  rw[mc hc]
  exact h
def arF:∀ {os:List MOp} {i:Nat} {w v:ph},zt home owner qn qb os i w= .inr v->(∀e∈w.eff,qq e.2=some home)->∀ e∈v.eff,qq e.2=some home:=by
 intro os
 induction os with
 | nil=>intro i w v h hw;cases h;exact hw
 | cons o os ih=>
  intro i w v h hw
  unfold zt at h
  split at h
  .cases h
  .exact ih h (avO hw)
def arG:∀ e∈(qR a home owner qn qb ops).eff,qq e.2=some home:=by
 unfold qR
 split
 .intro e he;cases he
 .split
  .intro e he;cases he
  .cases e:zt home owner qn qb ops 0 ⟨srt a,[],[]⟩with
   | inl x=>intro e he;cases he
   | inr w=>exact arF e fun e he=>by cases he
def ai9(hi:qQ b st)(ho:∀ k n x,st.lookup k=some n->parts k=some [x]->n.own=0)(hp:p∈kd st ws)(hh:(qq p).getD []=home):
  qq p=some home/\∀ u,qw p=some u->qq u=some home:=by
 obtain⟨n,h1,h2,_⟩:=anR hp
 obtain⟨ps,hps⟩:=hi.inv.path p n h1
 have hne:p≠[47]:=fun e=>by rw[e]at h1;exact h2 (hi.rt n h1).2.2
 have e:=yy hps
 match ps,hps with
 | [],hps=>exact mt ((qZ.1 hps).1) hne
 | [x],hps=>exact mt (ho p n x h1 hps) h2
 | x::y::r,hps=>
  rw[e]at hh
  simp at hh
  subst hh
  exact⟨by rw[e];try rfl,fun u hu=>aqu hps rfl y0 hu⟩
def as0(hi:qQ b st)(hb:b<=4398046511103)(ho:∀ k n x,st.lookup k=some n->parts k=some [x]->n.own=0):Out home st (xe st home ws).1:=by
 have:=ahd (P:=fun a=>qQ b a/\Out home st a) (home:=home) (ws:=ws) (st:=st) (fun a p hp hh h=>?_) ⟨hi,fun _ _=>rfl⟩
 .exact this.2
 .obtain⟨h1,h2⟩:=ai9 hi ho hp hh
  exact⟨aeU h.1 hb,fun k hk=>(amn h.1.inv.keys h1 h2 k hk).trans (h.2 k hk)⟩
def agb(home:Str):∀ (ks:List Str) (a:St×List Str),ks.foldl (zX home) a=(ks.filter fun k=>decide ((qq k).getD []=home)).foldl (zX home) a
 | [],_=>rfl
 | k::ks,a=>by
  rw[mY]
  by_cases c:(qq k).getD []=home
  .rw[LD (j4 c),mY]
   exact agb home ks _
  .rw[LE (j4 c)]
   have:zX home a k=a:=by unfold zX;rw[ma (fun h=>c h.1)]
   rw[this]
   exact agb home ks a
def anV:∀ (ks:List Str) (a c:St×List Str),(∀k∈ks,qq k=some home/\∀ u,qw k=some u->qq u=some home)->qQ b a.1->qQ b' c.1->b<=4398046511103->b'<=4398046511103->Loc home a.1 c.1->a.2=c.2->
  Loc home (ks.foldl (zX home) a).1 (ks.foldl (zX home) c).1/\(ks.foldl (zX home) a).2=(ks.foldl (zX home) c).2
 | [],a,c,_,_,_,_,_,L,e=>⟨L,e⟩
 | k::ks,a,c,hk,ha,hc,hb,hb',L,e=>by
  obtain⟨h1,h2⟩:=hk k y0
  obtain⟨e1,e2⟩:=amm (v:= -1) ha.inv.keys hc.inv.keys h1 h2 L
  rw[mY,mY]
  have hA:qQ b (zX home a k).1:=by unfold zX;split;exact aeU ha hb;exact ha
  have hC:qQ b' (zX home c k).1:=by unfold zX;split;exact aeU hc hb';exact hc
  refine anV ks _ _ (fun x hx=>hk x (by simp[hx])) hA hC hb hb' ?_ ?_
  .unfold zX
   rw[<-e1]
   split
   .exact e2
   .exact L
  .unfold zX
   rw[<-e1]
   split
   .simp only;rw[e]
   .exact e
def amC{c:St}(ha:qQ b a)(hc:qQ b' c)(oa:∀ k n x,a.lookup k=some n->parts k=some [x]->n.own=0)(oc:∀ k n x,c.lookup k=some n->parts k=some [x]->n.own=0)(L:Loc home a c):
  (kd a ws).filter (fun k=>decide ((qq k).getD []=home))=(kd c ws).filter (fun k=>decide ((qq k).getD []=home)):=by
 have hd:∀ (st:St) {b:Nat},qQ b st->((kd st ws).filter (fun k=>decide ((qq k).getD []=home))).reverse.Pairwise (· < ·):=fun st b hi=>by
  rw[List.pairwise_reverse]
  exact Pd Pf (ak1 hi.inv.keys)
 have hn:∀ (st:St) {b:Nat},qQ b st->((kd st ws).filter (fun k=>decide ((qq k).getD []=home))).Nodup:=fun st b hi=>
  Pd Pf (arD (ak1 hi.inv.keys))
 have one:∀ (x y:St) {b b':Nat},qQ b x->qQ b' y->(∀k n z,x.lookup k=some n->parts k=some [z]->n.own=0)->Loc home x y->∀ k,k∈(kd x ws).filter (fun k=>decide ((qq k).getD []=home))->k∈(kd y ws).filter (fun k=>decide ((qq k).getD []=home)):=fun x y b b' hx hy ox L k hk=>by
  rw[Le]at hk⊢
  refine⟨?_,hk.2⟩
  obtain⟨h1,_⟩:=ai9 hx ox hk.1 (Lz hk.2)
  have h2:=hk.1
  rw[amo hx.inv.keys,ahK]at h2
  rw[amo hy.inv.keys,ahK,<-L k h1]
  exact h2
 have hp:((kd a ws).filter (fun k=>decide ((qq k).getD []=home))).Perm ((kd c ws).filter (fun k=>decide ((qq k).getD []=home))):=
  (LR (hn a ha) (hn c hc)).2 fun k=>⟨one a c ha hc oa L k,one c a hc ha oc (fun k hk=>(L k hk).symm) k⟩
 have:=alh (hd a ha) (hd c hc) ((List.reverse_perm _).trans (hp.trans (List.reverse_perm _).symm))
 have:=mj List.reverse this
 simpa using this
def as1{c:St}(ha:qQ b a)(hc:qQ b' c)(hb:b<=4398046511103)(hb':b'<=4398046511103)(oa:∀ k n x,a.lookup k=some n->parts k=some [x]->n.own=0)(oc:∀ k n x,c.lookup k=some n->parts k=some [x]->n.own=0)(L:Loc home a c):
  Loc home (xe a home ws).1 (xe c home ws).1/\(xe a home ws).2=(xe c home ws).2:=by
 unfold xe
 rw[agb home (kd a ws),agb home (kd c ws),amC ha hc oa oc L]
 refine anV _ _ _ (fun k hk=>?_) ha hc hb hb' L rfl
 rw[<-amC ha hc oa oc L,Le]at hk
 exact ai9 ha oa hk.1 (Lz hk.2)
def as2(hi:qQ b st)(ho:∀ k n x,st.lookup k=some n->parts k=some [x]->n.own=0):∀ p∈(xe st home ws).2,qq p=some home:=by
 have key:∀ (ks:List Str) (a:St×List Str),(∀k∈ks,k∈kd st ws)->(∀p∈a.2,qq p=some home)->∀ p∈(ks.foldl (zX home) a).2,qq p=some home:=by
  intro ks
  induction ks with
  | nil=>intro a _ h;exact h
  | cons k ks ih=>
   intro a hk h
   rw[mY]
   refine ih _ (fun x hx=>hk x (by simp[hx])) ?_
   unfold zX
   split
   .rename_i c
    intro p hp
    rcases mv.1 hp with hp | hp
    .exact h p hp
    .rw[mr.1 hp];exact(ai9 hi ho (hk k y0) c.1).1
   .exact h
 exact key _ _ (fun k hk=>hk) fun p hp=>by cases hp
def aib(d:xR)(e:Int×Str):xR:=match qw e.2 with
 | none=>d
 | some up=>if e.1<1\/3<e.1 then d else
  let d1:=uR (e.2,1) e.1 d
  let d2:=if e.1≠3 then uR (up,2) 4 d1 else d1
  if e.1=2 then uR (e.2,2) 4 d2 else d2
def pM:qj (yS h m kind) k=(qj h k).map (uR m kind):=by
 unfold yS
 exact asu (f:=fun _ d=>uR m kind d)
def apW:qj (aa8 h e) k=(qj h k).map fun d=>aib d e:=by
 unfold aa8 aib
 cases qw e.2 with
 | none=>simp
 | some up=>
  simp only
  split
  .simp
  .split
   .split
    .rw[pM,pM,pM];cases qj h k<;>rfl
    .rw[pM,pM];cases qj h k<;>rfl
   .split
    .rw[pM,pM];cases qj h k<;>rfl
    .rw[pM]
def abw:∀ (l:List (Int×Str)) (h:Hub),qj (yn h l) k=(qj h k).map fun d=>l.foldl aib d
 | [],h=>by show qj h k=_;cases qj h k<;>rfl
 | e::l,h=>by
  show qj (yn (aa8 h e) l) k=_
  rw[abw l,apW]
  cases qj h k<;>rfl
def as3(h:aaO b k d)(hm:m∈d.marks):qq m.1=some k.1:=(akY (h.mks m hm)).1
def aps(h:aaO b k d)(he:qq e.2=some home)(hne:k.1≠home):aib d e=d:=by
 have no:∀ (m:kN) (kind:Int),qq m.1≠some k.1->uR m kind d=d:=fun m kind hm=>by
  unfold uR
  rw[ma fun hx=>hm (as3 h hx)]
 have n1:qq e.2≠some k.1:=by rw[he];intro x;exact hne (mB x).symm
 unfold aib
 split
 .rfl
 .rename_i up hu
  have n2:qq up≠some k.1:=fun x=>n1 (afv hu x)
  split
  .rfl
  .simp only
   rw[no (e.2,1) _ n1]
   have e2:(if e.1≠3 then uR (up,2) 4 d else d)=d:=by split;exact no (up,2) _ n2;rfl
   rw[e2]
   split
   .exact no (e.2,2) _ n1
   .rfl
def ak6:∀ {l:List (Int×Str)} {d:xR},aaO b k d->(∀e∈l,qq e.2=some home)->k.1≠home->l.foldl aib d=d
 | [],_,_,_,_=>rfl
 | e::l,d,h,hl,hne=>by
  rw[mY,aps h (hl e y0) hne]
  exact ak6 h (fun x hx=>hl x (by simp[hx])) hne
structure Sm(home:Str)(s t:Sto):Prop where
 tree:Loc home s.tree t.tree
 tbl:qj s.tbl home=qj t.tbl home
 hub:∀ n,qj s.hub (home,n)=qj t.hub (home,n)
 ep:s.epoch=t.epoch
def Sm.refl(home:Str)(s:Sto):Sm home s s:=⟨fun _ _=>rfl,rfl,fun _=>rfl,rfl⟩
def Sm.trans{t u:Sto}(h:Sm home s t)(k:Sm home t u):Sm home s u:=⟨fun x hx=>(h.tree x hx).trans (k.tree x hx),h.tbl.trans k.tbl,fun n=>(h.hub n).trans (k.hub n),h.ep.trans k.ep⟩
structure Oth(c:Str)(s s':Sto):Prop where
 tree:Out c s.tree s'.tree\/s'.tree=s.tree
 tbl:∀ k,k≠c->qj s'.tbl k=qj s.tbl k
 hub:∀ k:Str×Int,k.1≠c->qj s'.hub k=qj s.hub k
 ep:s'.epoch=s.epoch
def aic{κ α:Type}[DecidableEq κ]{m:List (κ×α)}{k k':κ}{a:α}(h:k'≠k):qj (wR m k a) k'=qj m k':=by rw[yB,ma h]
def aqy{s:yf}(h:x≠k.1):qj (aet t k s) x=qj t x:=by
 unfold aet
 split
 .rfl
 .exact aic h
def aqz(h:x≠k.1):qj (adL t k) x=qj t x:=by
 unfold adL
 split
 .rfl
 .exact aic h
def auF(h:x≠home):qj (wX t home nonce lease).1 x=qj t x:=by
 unfold wX
 split
 .rfl
 split
 .rfl
 split
 .rfl
 split
 .rfl
 split
 .rfl
 exact aic h
def as4(h:x≠k.1):qj (aaL t k).1 x=qj t x:=by
 unfold aaL
 split
 .exact aqy h
 .rfl
def avP{d:Str}(h:x≠k.1):qj (acV t k req d).1 x=qj t x:=by
 unfold acV
 split
 .split
  .rfl
  .split
   .rfl
   .exact aqy h
 .rfl
def arH(h:x≠k.1):qj (vu t k n).1 x=qj t x:=by
 unfold vu
 split
 .split
  .exact aqz h
  .rfl
 .rfl
def as5(h:x≠k.1):qj (yz t k).1 x=qj t x:=by
 unfold yz
 split
 .exact aqz h
 .rfl
def aqA(hk:k'≠k):qj (xH h k m).1 k'=qj h k':=by
 unfold xH
 split
 .rfl
 .split
  .rfl
  .exact aic hk
def avQ(hk:k'≠k):qj (yg h k n).1 k'=qj h k':=by
 unfold yg
 split
 .rfl
 .split
  .rfl
  .exact aic hk
def anW{l:List (Int×Str)}{c:Str}(i:ku b h)(hl:∀ e∈l,qq e.2=some c)(hk:k.1≠c):qj (yn h l) k=qj h k:=by
 rw[abw]
 cases e:qj h k with
 | none=>rfl
 | some d=>simp only[Option.map_some];rw[ak6 (i.ok _ (xt e)) hl hk]
def Oth.trans{c:Str}{t u:Sto}(h:Oth c s t)(k:Oth c t u):Oth c s u:=by
 refine⟨?_,fun x hx=>(k.tbl x hx).trans (h.tbl x hx),fun x hx=>(k.hub x hx).trans (h.hub x hx),k.ep.trans h.ep⟩
 rcases h.tree with a | a
 .rcases k.tree with d | d
  .exact .inl fun x hx=>(d x hx).trans (a x hx)
  .rw[d];exact .inl a
 .rw[<-a];exact k.tree
def Oth.sm{c:Str}{s':Sto}(h:Oth c s s')(hne:home≠c):Sm home s' s:=
 ⟨fun k hk=>by
  rcases h.tree with a | a
  .exact a k (by rw[hk];intro e;exact hne (mB e))
  .rw[a],h.tbl home hne,fun n=>h.hub (home,n) hne,h.ep⟩
def anX(i:wU b s)(hb:b<=33554433)(ho:∀ k n x,s.tree.lookup k=some n->parts k=some [x]->n.own=0):Oth k.1 s (acp s k):=by
 unfold acp
 refine⟨.inl (as0 i.tree z7 ho),fun _ _=>rfl,fun q hq=>?_,rfl⟩
 simp only
 rw[anW (alp i.hub) (c:=k.1) (fun e he=>?_) hq,ajZ i.hub.keys,ma (fun e=>hq (by rw[e]))]
 obtain⟨p,hp,rfl⟩:=mN.1 he
 exact as2 i.tree ho p hp
def as6(i:wU b s)(hb:b<=33554432)(hh:xb b s)(h8:c.kind≠8)(hne:home≠c.home):Sm home (vj s c).1 s:=by
 have i':wU (b+1) s:=⟨i.tree.mono z7,i.tbl.mono z7,i.hub.mono z7,by have:=i.ep;omega,i.mem⟩
 have R:=Sm.refl home s
 have kne:∀ q:Str×Int,q.1≠c.home->q≠c.key:=fun q hq e=>hq (by rw[e];try rfl)
 unfold vj
 split
 .unfold abS
  split
  .exact R
  .rename_i h0
   have hn:=ai7 (j4 h0)
   refine⟨?_,auF hne,fun _=>rfl,rfl⟩
   simp only
   split
   .rename_i hc
    have hl':s.tree.lookup (47::c.home)=none:=by simpa using hc.2
    obtain⟨n,hr⟩:=i.tree.inv.root
    have hrc:=hh.rt n hr
    rw[adh i.tree hn hr z7 hl']
    intro k hk
    simp only
    have k1:k≠[47]:=fun e=>by rw[e,adg]at hk;cases hk
    have k2:k≠47::c.home:=fun e=>by rw[e,(pL hn).2.2]at hk;exact hne (mB hk).symm
    rw[wu,ma k1,jv]
    cases s.tree.lookup k with
    | some m=>rfl
    | none=>simp only;rw[ma k2]
   .exact fun _ _=>rfl
 split
 .split
  .have i2:wU (b+1) ({s with tbl:=(vu s.tbl c.key c.beats).1}:Sto):=⟨i'.tree,ae8 i'.tbl,i'.hub,i'.ep,i'.mem⟩
   have o1:Oth c.home s {s with tbl:=(vu s.tbl c.key c.beats).1}:=⟨.inr rfl,fun k hk=>arH hk,fun _ _=>rfl,rfl⟩
   exact(o1.trans (anX (k:=c.key) i2 z7 hh.own1)).sm hne
  .exact R
 split
 .unfold aaN
  split
  .exact R
  split
  .exact R
  simp only
  have i1:wU b ({s with hub:=(yg s.hub c.key c.ack).1}:Sto):=⟨i.tree,i.tbl,uB i.hub,i.ep,i.mem⟩
  have o1:Oth c.home s {s with hub:=(yg s.hub c.key c.ack).1}:=⟨.inr rfl,fun _ _=>rfl,fun k hk=>avQ (kne k hk),rfl⟩
  split
  .have i2:wU (b+1) ({s with hub:=(yg s.hub c.key c.ack).1,tbl:=(yz s.tbl c.key).1}:Sto):=⟨i'.tree,acH i'.tbl,uB i'.hub,i'.ep,i'.mem⟩
   have o2:Oth c.home {s with hub:=(yg s.hub c.key c.ack).1} {s with hub:=(yg s.hub c.key c.ack).1,tbl:=(yz s.tbl c.key).1}:=⟨.inr rfl,fun k hk=>as5 hk,fun _ _=>rfl,rfl⟩
   exact(o1.trans (o2.trans (anX (k:=c.key) i2 z7 hh.own1))).sm hne
  .generalize hs1:({s with hub:=(yg s.hub c.key c.ack).1}:Sto)=s1 at i1 o1⊢
   have o2:Oth c.home s1 (doS s1 c).1:=by
    have R1:Oth c.home s1 s1:=⟨.inr rfl,fun _ _=>rfl,fun _ _=>rfl,rfl⟩
    unfold doS
    split
    .exact⟨.inr rfl,fun k hk=>as4 hk,fun _ _=>rfl,rfl⟩
    split
    .unfold aeu
     exact⟨.inl (ai5 i1.tree z7),fun _ _=>rfl,fun k hk=>anW i1.hub arG hk,rfl⟩
    split
    .unfold acq
     split
     .exact R1
     .split
      .exact R1
      .refine⟨.inr rfl,fun _ _=>rfl,fun k hk=>?_,rfl⟩
       simp only
       split
       .exact aqA (kne k hk)
       .rfl
    split
    .unfold uS
     split
     .exact R1
     .split
      .exact R1
      .split
       .exact R1
       .refine⟨.inr rfl,fun _ _=>rfl,fun k hk=>?_,rfl⟩
        simp only
        split
        .exact aqA (kne k hk)
        .rfl
    .exact R1
   have o3:Oth c.home (doS s1 c).1 {(doS s1 c).1 with tbl:=(acV (doS s1 c).1.tbl c.key c.req ((vF (doS s1 c).2).getD [])).1}:=⟨.inr rfl,fun k hk=>avP hk,fun _ _=>rfl,rfl⟩
   exact(o1.trans (o2.trans o3)).sm hne
 .exact R
def aid(h:qj t k.1=qj u k.1):xM t k=xM u k:=by unfold xM;rw[h]
def auG(h:qj t k.1=qj u k.1):zu t k req=zu u k req:=by unfold zu;rw[aid h]
def aqB{s:yf}(h:qj t k.1=qj u k.1):qj (aet t k s) k.1=qj (aet u k s) k.1:=by
 unfold aet
 rw[h]
 split
 .exact h
 .rw[yB,yB,mc rfl,mc rfl]
def aqC(h:qj t k.1=qj u k.1):qj (adL t k) k.1=qj (adL u k) k.1:=by
 unfold adL
 rw[h]
 split
 .exact h
 .rw[yB,yB,mc rfl,mc rfl]
def avR(h:qj t home=qj u home):(wX t home nonce lease).2=(wX u home nonce lease).2/\qj (wX t home nonce lease).1 home=qj (wX u home nonce lease).1 home:=by
 have e:qP t home=qP u home:=by unfold qP;rw[h]
 unfold wX
 rw[e]
 split
 .exact⟨rfl,h⟩
 split
 .exact⟨rfl,h⟩
 split
 .exact⟨rfl,h⟩
 split
 .exact⟨rfl,h⟩
 split
 .exact⟨rfl,h⟩
 .exact⟨rfl,by simp only;rw[yB,yB,mc rfl,mc rfl]⟩
def as7(e:∀ n,qj h (k.1,n)=qj g (k.1,n)):(xH h k m).2=(xH g k m).2/\∀ n,qj (xH h k m).1 (k.1,n)=qj (xH g k m).1 (k.1,n):=by
 have d:zV h k=zV g k:=by unfold zV;rw[e k.2]
 unfold xH
 rw[d]
 split
 .exact⟨rfl,e⟩
 .split
  .exact⟨rfl,e⟩
  .exact⟨rfl,fun n=>by simp only;rw[yB,yB,e n]⟩
def awx(e:∀ n,qj h (k.1,n)=qj g (k.1,n)):∀ x,qj (yg h k n).1 (k.1,x)=qj (yg g k n).1 (k.1,x):=by
 have e0:qj h k=qj g k:=e k.2
 intro x
 unfold yg
 rw[e0]
 split
 .exact e x
 .split
  .exact e x
  .simp only;rw[yB,yB,e x]
def avS{c:St}(ha:qQ b a)(hc:qQ b' c)(hp:qq p=some home)(L:Loc home a c):af5 a p=af5 c p:=by
 unfold af5 xY
 have fm:∀ ks:List Str,(ks.filterMap fun k=>if qw k=some p then base k else none)=((ks.filter fun k=>decide (qq k=some home)).filterMap fun k=>if qw k=some p then base k else none):=by
  intro ks
  induction ks with
  | nil=>rfl
  | cons k ks ih=>
   by_cases d:qq k=some home
   .rw[LD (j4 d),LT,LT,ih]
   .rw[LE (j4 d),LT,ih]
    rw[ma fun e=>d (afv e hp)]
 rw[fm ((srt a).map (·.1)),fm ((srt c).map (·.1))]
 congr 1
 have hs:∀ (st:St) {b:Nat},qQ b st->(((srt st).map (·.1)).filter fun k=>decide (qq k=some home)).Pairwise (· < ·):=fun st b hi=>by
  refine Pd Pf ?_
  rw[LJ]
  exact ahU hi.inv.keys
 have hm:∀ (st:St) {b:Nat},qQ b st->∀ k,k∈(((srt st).map (·.1)).filter fun k=>decide (qq k=some home))↔(st.lookup k).isSome=true/\qq k=some home:=fun st b hi k=>by
  rw[Le,((zZ st).map (·.1)).mem_iff,me]
  refine and_congr_left fun _=>⟨fun h=>?_,fun h=>?_⟩
  .obtain⟨n,hn⟩:=ag2 h;rw[hn];try rfl
  .obtain⟨n,hn⟩:=LU.1 h;exact ag3 hn
 have nd:∀ (st:St) {b:Nat},qQ b st->(((srt st).map (·.1)).filter fun k=>decide (qq k=some home)).Nodup:=fun st b hi=>asW (hs st hi)
 refine alh (hs a ha) (hs c hc) ((LR (nd a ha) (nd c hc)).2 fun k=>?_)
 rw[hm a ha,hm c hc]
 refine and_congr_left fun hk=>?_
 rw[L k hk]
def apt{t:Sto}(i:wU b s)(j:wU b' t)(hb:b<=33554433)(hb':b'<=33554433)(os:∀ k n x,s.tree.lookup k=some n->parts k=some [x]->n.own=0)(ot:∀ k n x,t.tree.lookup k=some n->parts k=some [x]->n.own=0)(h:Sm k.1 s t):Sm k.1 (acp s k) (acp t k):=by
 obtain⟨e1,e2⟩:=as1 (ws:=[k.2]) i.tree j.tree z7 z7 os ot h.tree
 unfold acp
 refine⟨e1,h.tbl,fun n=>?_,h.ep⟩
 simp only
 rw[e2,abw,abw,ajZ i.hub.keys,ajZ j.hub.keys,h.hub n]
def axh{t:Sto}(i:wU b s)(j:wU b' t)(hb:b<=33554432)(hb':b'<=33554432)(hn:wb c.home=true)(h:Sm c.home s t):Sm c.home (doS s c).1 (doS t c).1/\(doS s c).2=(doS t c).2:=by
 unfold doS
 split
 .refine⟨⟨h.tree,?_,h.hub,h.ep⟩,rfl⟩
  simp only
  unfold aaL
  rw[aid (k:=c.key) h.tbl]
  split
  .exact aqB (k:=c.key) h.tbl
  .exact h.tbl
 split
 .unfold aeu
  obtain⟨e1,e2,e3,e4,e5⟩:=apV (owner:=c.session) (qn:=64) (qb:=8192) (ops:=c.ops) i.tree j.tree z7 z7 h.tree
  refine⟨⟨e5,h.tbl,fun n=>?_,h.ep⟩,?_⟩
  .simp only
   rw[e4,abw,abw,h.hub n]
  .simp only
   rw[e1,e2,e3]
 split
 .unfold acq
  split
  .exact⟨h,rfl⟩
  .rename_i ha
   have hp:=aln ha hn
   obtain⟨a1,a2⟩:=as7 (k:=c.key) (m:=(c.path,1)) h.hub
   rw[a1]
   split
   .exact⟨h,rfl⟩
   .refine⟨⟨h.tree,h.tbl,fun n=>?_,h.ep⟩,?_⟩
    .simp only
     split
     .exact a2 n
     .exact h.hub n
    .simp only
     rw[h.tree c.path hp]
 split
 .unfold uS
  split
  .exact⟨h,rfl⟩
  .rename_i ha
   have hp:=aln ha hn
   obtain⟨a1,a2⟩:=as7 (k:=c.key) (m:=(c.path,2)) h.hub
   rw[a1,h.tree c.path hp]
   split
   .exact⟨h,rfl⟩
   .split
    .exact⟨h,rfl⟩
    .refine⟨⟨h.tree,h.tbl,fun n=>?_,h.ep⟩,?_⟩
     .simp only
      split
      .exact a2 n
      .exact h.hub n
     .simp only
      rw[avS i.tree j.tree hp h.tree]
 .exact⟨h,rfl⟩
def auH{t:Sto}(i:wU b s)(j:wU b' t)(hb:b<=33554432)(hb':b'<=33554432)(hs:xb b s)(ht:xb b' t)(h:Sm c.home s t):Sm c.home (vj s c).1 (vj t c).1/\(vj s c).2=(vj t c).2:=by
 have i':wU (b+1) s:=⟨i.tree.mono z7,i.tbl.mono z7,i.hub.mono z7,by have:=i.ep;omega,i.mem⟩
 have j':wU (b'+1) t:=⟨j.tree.mono z7,j.tbl.mono z7,j.hub.mono z7,by have:=j.ep;omega,j.mem⟩
 unfold vj
 split
 .unfold abS
  obtain⟨e1,e2⟩:=avR (nonce:=c.nonce) (lease:=c.lease) h.tbl
  rw[e1]
  split
  .exact⟨h,rfl⟩
  .rename_i h0
   have hn:=ai7 (t:=t.tbl) (j4 h0)
   refine⟨⟨?_,e2,h.hub,h.ep⟩,rfl⟩
   simp only
   rw[h.tree _ (pL hn).2.2]
   split
   .rename_i hc
    have hl':t.tree.lookup (47::c.home)=none:=by simpa using hc.2
    have hl'':s.tree.lookup (47::c.home)=none:=by rw[h.tree _ (pL hn).2.2];exact hl'
    obtain⟨n,hr⟩:=i.tree.inv.root
    have hrc:=hs.rt n hr
    obtain⟨m,hr'⟩:=j.tree.inv.root
    have hrc':=ht.rt m hr'
    rw[adh i.tree hn hr z7 hl'',adh j.tree hn hr' z7 hl']
    intro k hk
    simp only
    have k1:k≠[47]:=fun e=>by rw[e,adg]at hk;cases hk
    rw[wu,wu,ma k1,ma k1,jv,jv,h.tree k hk]
   .exact h.tree
 split
 .unfold vu
  rw[aid (k:=c.key) h.tbl]
  rcases pK t.tbl c.key with⟨x,e⟩ | ⟨x,_,e⟩
  .rw[e]
   simp only
   by_cases d:x.beats=c.beats
   .simp only[mc d,if_true]
    refine⟨?_,trivial⟩
    refine apt (b:=b+1) (b':=b'+1) (k:=c.key) ⟨i'.tree,aiR i'.tbl,i'.hub,i'.ep,i'.mem⟩ ⟨j'.tree,aiR j'.tbl,j'.hub,j'.ep,j'.mem⟩ z7 z7 hs.own1 ht.own1 ⟨h.tree,aqC (k:=c.key) h.tbl,h.hub,h.ep⟩
   .simp only[ma d,Bool.false_eq_true,if_false]
    exact⟨h,trivial⟩
  .rw[e]
   simp only[Bool.false_eq_true,if_false]
   exact⟨h,trivial⟩
 split
 .unfold aaM
  rw[h.ep]
  split
  .exact⟨h,rfl⟩
  .split
   .exact⟨h,rfl⟩
   .exact⟨⟨h.tree,h.tbl,h.hub,rfl⟩,rfl⟩
 split
 .unfold aaN
  rw[auG (k:=c.key) h.tbl]
  split
  .exact⟨h,rfl⟩
  rename_i hbe
  have hnm:=amA j.tbl (ak5 (j4 hbe))
  split
  .refine⟨h,?_⟩
   simp only
   unfold ja
   rw[show qj s.hub c.key=qj t.hub c.key from h.hub c.session]
  simp only
  have h1:Sm c.home ({s with hub:=(yg s.hub c.key c.ack).1}:Sto) {t with hub:=(yg t.hub c.key c.ack).1}:=⟨h.tree,h.tbl,awx (k:=c.key) h.hub,h.ep⟩
  split
  .refine⟨?_,rfl⟩
   refine apt (b:=b+1) (b':=b'+1) (k:=c.key) ⟨i'.tree,acH i'.tbl,uB i'.hub,i'.ep,i'.mem⟩ ⟨j'.tree,acH j'.tbl,uB j'.hub,j'.ep,j'.mem⟩ z7 z7 hs.own1 ht.own1 ⟨h1.tree,?_,h1.hub,h1.ep⟩
   simp only
   unfold yz
   rw[aid (k:=c.key) h.tbl]
   split
   .exact aqC (k:=c.key) h.tbl
   .exact h.tbl
  .have i1:wU b ({s with hub:=(yg s.hub c.key c.ack).1}:Sto):=⟨i.tree,i.tbl,uB i.hub,i.ep,i.mem⟩
   have j1:wU b' ({t with hub:=(yg t.hub c.key c.ack).1}:Sto):=⟨j.tree,j.tbl,uB j.hub,j.ep,j.mem⟩
   obtain⟨e1,e2⟩:=axh i1 j1 hb hb' hnm h1
   rw[e2]
   refine⟨⟨e1.tree,?_,e1.hub,e1.ep⟩,?_⟩
   .simp only
    unfold acV
    rw[aid (k:=c.key) e1.tbl]
    split
    .split
     .exact e1.tbl
     .split
      .exact e1.tbl
      .exact aqB (k:=c.key) e1.tbl
    .exact e1.tbl
   .simp only
    unfold ja
    rw[show qj (doS ({s with hub:=(yg s.hub c.key c.ack).1}:Sto) c).1.hub c.key=_ from e1.hub c.session]
    try rfl
 .exact⟨h,rfl⟩
def as8{t:Sto}(hk:c.kind=8)(h:Sm home s t):Sm home (vj s c).1 (vj t c).1/\(vj s c).2=(vj t c).2:=by
 unfold vj
 rw[ma z7,ma z7,mc hk,ma z7,ma z7,mc hk]
 unfold aaM
 rw[h.ep]
 split
 .exact⟨h,rfl⟩
 .split
  .exact⟨h,rfl⟩
  .exact⟨⟨h.tree,h.tbl,h.hub,rfl⟩,rfl⟩
end Zt
namespace SL
open Go
variable{ro I I':AH}{T1 T2 T1':Nat->Nat}
def agc(T1 T2:Nat->Nat)(I:AH):Prop:= ∀b,(I b).isSome=true->T1 b=7\/T2 b=7
def agc.symm(h:agc T1 T2 I):agc T2 T1 I:=fun b hb=>(h b hb).symm
def mir(I:AH)(T2:Nat->Nat):Nat->Nat:=fun b=>if(I b).isSome then T2 b else 7
def StepS.mir{C:List Nat}(st:StepS C ro T1 I T1' I')(h:agc T1 T2 I)(h7:7∉C):StepS [7] ro T2 I (SL.mir I T2) I'/\agc T1' (SL.mir I T2) I':=by
 obtain⟨R,hR,k⟩:=st
 have n7:7∉R:=fun m=>h7 (hR 7 m)
 refine⟨⟨[7],y0,⟨fun b o hb hn=>?_,fun b o hb=>?_,k.sep⟩⟩,fun b hb=>?_⟩
 .have e:T1 b=7:=(h b (by rw[hb];try rfl)).resolve_right (j4 hn)
  exact⟨by unfold SL.mir;rw[hb];try rfl,(k.keep b o hb (by rw[e];exact n7)).2⟩
 .exact⟨by unfold SL.mir;rw[hb];try rfl,(k.old b o hb).2⟩
 .unfold SL.mir
  cases e:I b with
  | none=>exact .inr rfl
  | some o=>
   rw[(k.old b o e).1]
   exact h b (by rw[e];try rfl)
end SL
namespace SL
open Go
variable{ro I I':AH}{T1 T2 T1' tag:Nat->Nat}{L:List Nat}
variable{l:List (List Value)}{C:List Nat}{r w:Nat}{tag1:Nat->Nat}{s:Sl}{e:TypeId}
def Row.to7{l:List Value}(h:Row T1 I r e s l)(hr:r≠7)(ap:agc T1 T2 I):Row T2 I 7 e s l:=by
 rcases h with h | ⟨b,cs,ha,ht,hb,hx⟩
 .exact .inl h
 .exact .inr ⟨b,cs,ha,(ap b (by rw[hb];try rfl)).resolve_left (by rw[ht];exact hr),hb,hx⟩
def ql.to7(h:ql T1 I r e w s l)(hr:r≠7)(ap:agc T1 T2 I):ql T2 I 7 e w s l:=by
 rcases h with h | ⟨b,cs,ha,ht,hb,hx⟩
 .exact .inl h
 .exact .inr ⟨b,cs,ha,(ap b (by rw[hb];try rfl)).resolve_left (by rw[ht];exact hr),hb,hx⟩
def anY{a:Addr}{v:ZC}{o:Obj}{τ:AH}(hs:Sep ro I)(ht:tag a.block∈L)(hb:I a.block=some o)(h:qa ro I a=some v):qa (join ro (inR tag L I)) τ a=some v:=by
 unfold qa rd at h⊢
 rw[hs _ _ hb]at h
 unfold join inR
 rw[hs _ _ hb]
 simp only[mc ht,hb]at h⊢
 exact h
def Row.lentN{l:List Value}(h:Row tag I r e s l)(hs:Sep ro I)(hr:r∈L):qJ (join ro (inR tag L I)) (fun _=>none) s l:=by
 have R:=h.read hs
 refine⟨R.1,R.2.1,fun p hp i v hv=>?_⟩
 rcases h with⟨e,_⟩ | ⟨b,cs,ha,ht,hb,_⟩
 .rw[e]at hp;cases hp
 .have hpb:p.block=b:=by rw[ha]at hp;cases hp;rfl
  exact anY hs (by rw[afo,hpb,ht];exact hr) (by rw[afo,hpb];exact hb) (R.2.2 p hp i v hv)
def ql.lentN(h:ql tag I r e w s l)(hs:Sep ro I)(hr:r∈L):vt (join ro (inR tag L I)) (fun _=>none) w s l:=by
 have R:=h.read hs
 refine⟨R.1,R.2.1,R.2.2.1,fun p hp i v hv=>?_⟩
 rcases h with⟨e,_⟩ | ⟨b,cs,ha,ht,hb,_⟩
 .rw[e]at hp;cases hp
 .have hpb:p.block=b:=by rw[ha]at hp;cases hp;rfl
  exact anY hs (by rw[afo,hpb,ht];exact hr) (by rw[afo,hpb];exact hb) (R.2.2.2 p hp i v hv)
def StepS.new7(st:StepS C ro T7 I tag1 I')(h:7∉C)(tag:Nat->Nat):∀ R,qd R ro tag I (SL.mir I tag) I':=fun R=>
 have hl:=st.hle h
 ⟨fun b o hb _=>⟨by simp[SL.mir,hb],hl b o hb⟩,fun b o hb=>⟨by simp[SL.mir,hb],o,hl b o hb⟩,st.sep⟩
def ql.new7(h:ql tag1 I' r e w s l)(st:StepS C ro T7 I tag1 I')(hr:r≠7)(tag:Nat->Nat):ql (SL.mir I tag) I' 7 e w s l:=by
 rcases h with h | ⟨b,cs,ha,ht,hb,hx⟩
 .exact .inl h
 .refine .inr ⟨b,cs,ha,?_,hb,hx⟩
  unfold SL.mir
  cases e:I b with
  | none=>rfl
  | some o=>exact mt (by rw[<-ht];exact st.old7 e) hr
end SL
namespace Zt
open Go SL G Pa Wi
variable{ro I:AH}{tag:Nat->Nat}{L:List Nat}
def amx.lent{os ms:Sl}{c:wM}{ψ:AH}(h:amx ro os ms c):amx (join ro ψ) os ms c:=⟨h.ops.ro',asp h.mem⟩
def as9{x y:Rep}(h:vv x)(e:x=y):decide (vF x≠none/\vF x=vF y)=true:=by
 subst e
 unfold vF;rw[mc h];simp
def ue.lentN{T1 T2:Nat->Nat}{rs ds ns es:Sl}{x:Rep}(h:ue T1 I rs ds ns es x)(hs:SL.Sep ro I)(ap:agc T1 T2 I):abb (join ro (SL.inR T2 [7] I)) (fun _=>none) rs ds ns es x:=by
 obtain⟨⟨r1,e1,a⟩,b,⟨r2,e2,c⟩,⟨r3,e3,d⟩⟩:=h
 refine⟨ql.lentN (ql.to7 a ?_ ap) hs y0,(b.to7 y1 ap).lentN hs y0,(c.to7 ?_ ap).lentN hs y0,ql.lentN (ql.to7 d ?_ ap) hs y0⟩
 .rintro rfl;simp at e1
 .rintro rfl;simp at e2
 .rintro rfl;simp at e3