import Derived.HandedShaped
import Derived.LaidMore
import Derived.Lay
import Derived.Stop.Joined
import Derived.JoinedCond
import Derived.Test.YtomdigihapdhnaaGreatDoorRows
import Derived.Test.YtomdigihapdhnaaGreatDoorXS
set_option linter.all false
set_option maxRecDepth 99999
set_option maxHeartbeats 0
open Go.IntKind(i64)
open Go.Proofs.Tryz
namespace Go.Proofs.YtomdigihapdhnaaGreatDoor
namespace Zt
open Go SL Pa Wi
variable{lease nonce owner qb qn req v:Int}{ws:List Int}{ops:List MOp}{o:MOp}{b:Nat}{n:Nd}{a a' st:St}{s s':Sto}{d h home p u:Str}{k:Str×Int}{t:Tbl}{c:vY}
theorem aiq{P:St->Prop}(hP:∀ a p,p∈adi st ws->(qK p).getD []=home->P a->P (wL a p (-1)).1)(h:P st):P (pd st home ws).1:=by
 have key:∀ (ks:List Str) (a:St×List Str),(∀k∈ks,k∈adi st ws)->P a.1->P (ks.foldl (yd home) a).1:=by
  intro ks
  induction ks with
  | nil=>intro a _ h;exact h
  | cons k ks ih=>
   intro a hk h
   rw[List.foldl_cons]
   refine ih _ (fun x hx=>hk x (by simp[hx])) ?_
   unfold yd
   split
   .rename_i c
    exact hP _ _ (hk k (by simp)) c.1 h
   .exact h
 exact key _ _ (fun k hk=>hk) h
theorem apW{k:Str}(hm:k∈adi st ws):∃ n,st.lookup k=some n/\n.own≠0/\n.own∈ws:=by
 unfold adi at hm
 rw[List.mem_reverse,List.mem_filter]at hm
 have:=hm.2
 unfold aav at this
 cases e:st.lookup k with
 | none=>rw[e]at this;simp at this
 | some n=>rw[e]at this;simp at this;exact⟨n,rfl,this.1,this.2⟩
theorem abn(hn:we home=true):parts (47::home)=some [home]/\qB (47::home)=some [47]/\qK (47::home)=some home:=by
 have hl:=aa4 hn
 have h1:parts (47::home)=some [home]:=wd.2 ⟨by simp[mk],⟨by simp,fun y hy=>by rw[List.mem_singleton.1 hy];exact hn,by simp[mk];omega⟩⟩
 refine⟨h1,?_,?_⟩
 .unfold qB;rw[h1];try rfl
 .rw[pc h1];try rfl
theorem apX{k x:Str}(h:parts k=some [x]):k=47::x/\we x=true/\qK k=some x/\qB k=some [47]:=by
 obtain⟨h1,h2⟩:=wd.1 h
 have hx:=h2.ok x (by simp)
 have hk:k=47::x:=by rw[h1];simp[mk]
 rw[hk]
 exact⟨rfl,hx,(abn hx).2.2,(abn hx).2.1⟩
theorem af1:qK [47]=none:=rfl
theorem adU(hi:ww b st)(hn:we home=true)(hr:st.lookup [47]=some n)(hc:n.ctr<=9999999999)(hl:st.lookup (47::home)=none):
  wt st (47::home) [] 0 false=(wi (st++[(47::home,⟨0,0,0,0,[]⟩)]) [47] jw,47::home,0):=by
 unfold wt
 rw[(abn hn).2.1]
 simp only
 rw[if_neg (by simp),if_neg (by omega),hr]
 simp only
 rw[if_neg (by simp[(hi.rt n hr).2.2]),if_neg (by omega)]
 simp only[Bool.false_eq_true,if_false]
 rw[hl]
 try rfl
theorem asB(hi:Inv st)(hl:st.lookup (47::home)=none):∀ k n,st.lookup k=some n->qK k≠some home:=by
 have key:∀ (m:Nat) (k:Str) (n:Nd) (ps:List Str),st.lookup k=some n->parts k=some ps->ps.length=m+1->ps.head?=some home->False:=by
  intro m
  induction m with
  | zero=>
   intro k n ps hk hp hlen hh
   match ps,hlen with
   | [x],_=>
    simp at hh
    subst hh
    rw[(apX hp).1,hl]at hk;cases hk
  | succ m ih=>
   intro k n ps hk hp hlen hh
   have hne:k≠[47]:=fun e=>by
    rw[e]at hp
    have:parts [47]=some []:=rfl
    rw[this]at hp;cases hp;simp at hlen
   obtain⟨u,m',hu,hl',_⟩:=hi.up k n hk hne
   obtain⟨qs,h1,h2,h3⟩:=ajz hu
   rw[hp]at h1;cases h1
   refine ih u m' _ hl' h3 (by rw[List.length_dropLast];omega) ?_
   match ps,hlen with
   | x::y::r,_=>simpa using hh
 intro k n hk hh
 obtain⟨ps,hps⟩:=hi.path k n hk
 rw[pc hps]at hh
 match ps,hh with
 | x::r,hh=>exact key r.length k n _ hk hps (by simp) hh
def Qt(st:St):Prop:= ∀home,bnd st home 64 8192
theorem akn(hk:(st.map (·.1)).Nodup)(hn:∀ k n,st.lookup k=some n->qK k≠some h):ze st h=(0,0):=by
 have L:Loc h st []:=fun k hk=>by
  cases e:st.lookup k with
  | none=>rfl
  | some n=>exact absurd hk (hn k n e)
 exact alx hk (by simp) L
theorem atd:Qt St.new:=fun home=>by
 have:ze St.new home=(0,0):=by
  refine akn (by simp[St.new]) fun k n h=>?_
  unfold St.new at h
  rw[List.lookup_cons]at h
  by_cases c:k=[47]
  .rw[c,af1];simp
  .rw[show(k == [47])=false by simpa using c]at h;cases h
 unfold bnd;rw[this];exact⟨by decide,by decide⟩
theorem aro(h:Qt st):Qt (pd st home ws).1:=aiq (P:=Qt) (fun a p _ _ ha home'=>aj5 (ha home')) h
theorem arp(hi:ww b st)(hb:b<=4398046511000)(h:Qt st):Qt (qS st home owner 64 8192 ops).st:=fun h'=>by
 by_cases c:h'=home
 .subst c;exact apy (h _)
 .have L:Loc h' (qS st home owner 64 8192 ops).st st:=fun k hk=>akh hi hb k (by rw[hk];intro e;exact c (Option.some.inj e))
  have:=h h'
  unfold bnd at this⊢
  rw[alx (aj3 hi hb).inv.keys hi.inv.keys L];exact this
theorem asC(hi:ww b st)(hn:we home=true)(hr:st.lookup [47]=some n)(hc:n.ctr<=9999999999)(hl:st.lookup (47::home)=none)(h:Qt st):Qt (wt st (47::home) [] 0 false).1:=fun h'=>by
 rw[adU hi hn hr hc hl]
 unfold bnd
 rw[ag6 (f:=jw) (fun n=>rfl),ag0 (List.perm_append_singleton (47::home,(⟨0,0,0,0,[]⟩:Nd)) st),abw]
 have hl':=aa4 hn
 by_cases c:h'=home
 .subst c
  rw[akn hi.inv.keys (asB hi.inv hl)]
  unfold uw
  rw[if_pos (abn hn).2.2,if_pos (abn hn).2.2]
  simp only[List.length_cons,List.length_nil]
  exact⟨by omega,by omega⟩
 .have hne:qK (47::home)≠some h':=by rw[(abn hn).2.2];intro e;exact c (Option.some.inj e).symm
  unfold uw
  rw[if_neg hne,if_neg hne]
  have:=h h'
  unfold bnd at this
  simp only
  exact⟨by omega,by omega⟩
def Top(a a':St):Prop:= ∀k x,parts k=some [x]->(a'.lookup k).map (·.own)=(a.lookup k).map (·.own)
theorem Top.refl(a:St):Top a a:=fun _ _ _=>rfl
theorem Top.trans{b c:St}(h:Top a b)(k:Top b c):Top a c:=fun x y e=>(k x y e).trans (h x y e)
theorem ak0{f:Nd->Nd}(hf:∀ n,(f n).own=n.own)(k:Str):((wi st u f).lookup k).map (·.own)=(st.lookup k).map (·.own):=by
 rw[zd]
 split
 .cases st.lookup k with
  | none=>rfl
  | some n=>simp[hf]
 .rfl
theorem aoK{o:Int}{seq:Bool}(hu:∀ u,qB p=some u->qK u=some h):Top a (wt a p d o seq).1:=by
 have R:=Top.refl a
 unfold wt
 cases hp:qB p with
 | none=>exact R
 | some u=>
  have hhu:=hu u hp
  simp only
  split
  .exact R
  .split
   .exact R
   .cases hn:a.lookup u with
    | none=>exact R
    | some n=>
     simp only
     split
     .exact R
     .split
      .exact R
      .cases hq:(if seq then yY p n.ctr else some p)with
       | none=>exact R
       | some q=>
        simp only
        have hpq:qB q=some u:=by
         cases seq with
         | true=>simp at hq;obtain⟨_,_,e⟩:=acf hq;rw[e,hp]
         | false=>simp at hq;rw[<-hq,hp]
        split
        .exact R
        .intro k x hk
         rw[ak0 (f:=jw) (fun n=>rfl),uY]
         have hkq:k≠q:=fun e=>by
          have h1:=(apX hk).2.2.2
          rw[e,hpq]at h1
          rw[Option.some.inj h1,af1]at hhu;cases hhu
         cases a.lookup k with
         | some m=>rfl
         | none=>simp only;rw[if_neg hkq]
theorem ako(hk:(a.map (·.1)).Nodup)(hp:∀ x,parts p≠some [x]):Top a (wL a p v).1:=by
 rcases abZ a p v with⟨e,_,he⟩ | ⟨n,u,he,_⟩
 .rw[he];exact Top.refl a
 .rw[he]
  intro k x hkx
  simp only
  rw[abt (by rw[ui];exact hk),if_neg (fun e=>hp x (by rw[<-e];exact hkx)),ak0 (f:=yy) (fun n=>rfl)]
theorem arq:Top a (vW a p d v).1:=by
 rcases ah2 a p d v with⟨e,_,he⟩ | ⟨n,he,_⟩
 .rw[he];exact Top.refl a
 .rw[he]
  intro k x hkx
  simp only
  rw[ak0 (f:=pt d) (fun n=>rfl)]
theorem anj(h:zC home o=0)(hk:o.kind<=2):∀ x,parts o.path≠some [x]:=by
 intro x e
 unfold zC at h
 split at h
 .cases h
 .rw[e]at h
  simp only at h
  rw[if_pos (.inr ⟨rfl,hk⟩)]at h;cases h
theorem arr(hw:zC home o=0)(hka:(a.map (·.1)).Nodup):Top a (xf owner a o).1:=by
 obtain⟨h1,h2⟩:=aja hw
 unfold xf
 split
 .exact aoK (h2 (by omega))
 .split
  .exact ako hka (anj hw (by omega))
  .split
   .exact arq
   .exact Top.refl a
theorem asD{w:uG}(hk:(w.st.map (·.1)).Nodup):Top w.st (doE home owner qn qb w o).2.st:=by
 by_cases hc:zC home o=0
 .have:=arr (owner:=owner) hc hk
  unfold doE
  rw[if_neg (by simpa using hc)]
  split
  .exact this
  .split
   .exact this
   .exact this
 .unfold doE
  rw[if_pos hc]
  exact Top.refl _
theorem aoL:∀ {os:List MOp} {i b:Nat} {w v:uG},ww b w.st->b+os.length<=4398046511103->vg home owner qn qb os i w= .inr v->Top w.st v.st:=by
 intro os
 induction os with
 | nil=>intro i b w v _ _ h;cases h;exact Top.refl _
 | cons o os ih=>
  intro i b w v h1 hb h
  simp only[List.length_cons]at hb
  unfold vg at h
  split at h
  .cases h
  .exact(asD (home:=home) (owner:=owner) (qn:=qn) (qb:=qb) (o:=o) h1.inv.keys).trans (ih (agf h1 (by omega)) (by omega) h)
theorem aoM(ha:ww b a)(hb:b<=4398046511000):Top a (qS a home owner qn qb ops).st:=by
 unfold qS
 split
 .exact Top.refl a
 .split
  .exact Top.refl a
  .cases e:vg home owner qn qb ops 0 ⟨srt a,[],[]⟩with
   | inl x=>exact Top.refl a
   | inr w=>
    have:=aoL (acC ha) (by omega) e
    intro k x hk
    rw[<-aeN ha.inv.keys k]
    exact this k x hk
structure yh(b:Nat)(s:Sto):Prop where
 qt:Qt s.tree
 at1:∀ p∈s.tbl.map (·.1),∃n,s.tree.lookup (47::p)=some n
 own1:∀ k n x,s.tree.lookup k=some n->parts k=some [x]->n.own=0
 rt:∀ n,s.tree.lookup [47]=some n->n.ctr<=b
theorem Top.at1(h:Top a a')(ht:∀ p∈t.map (·.1),we p=true)(k:∀ p∈t.map (·.1),∃n,a.lookup (47::p)=some n):∀ p∈t.map (·.1),∃n,a'.lookup (47::p)=some n:=fun p hp=>by
 obtain⟨n,hn⟩:=k p hp
 have:=h (47::p) p (abn (ht p hp)).1
 rw[hn]at this
 cases e:a'.lookup (47::p)with
 | some m=>exact⟨m,rfl⟩
 | none=>rw[e]at this;cases this
theorem Top.own1(h:Top a a')(k:∀ k n x,a.lookup k=some n->parts k=some [x]->n.own=0):∀ k n x,a'.lookup k=some n->parts k=some [x]->n.own=0:=fun q n x hn hp=>by
 have:=h q x hp
 rw[hn]at this
 cases e:a.lookup q with
 | none=>rw[e]at this;cases this
 | some m=>rw[e]at this;simp at this;rw[this];exact k q m x e hp
theorem alA{s:jQ}:(adB t k s).map (·.1)=t.map (·.1):=by
 unfold adB
 split
 .rfl
 .rename_i h e
  rw[ad9,if_pos (by rw[<-Classical.not_not (a:=k.1∈_),<-xi,e];simp)]
theorem alB:(afV t k).map (·.1)=t.map (·.1):=by
 unfold afV
 split
 .rfl
 .rename_i h e
  rw[ad9,if_pos (by rw[<-Classical.not_not (a:=k.1∈_),<-xi,e];simp)]
theorem ank:(ab4 t k).1.map (·.1)=t.map (·.1):=by
 unfold ab4
 split
 .exact alA
 .rfl
theorem apY:(adj t k req d).1.map (·.1)=t.map (·.1):=by
 unfold adj
 split
 .split
  .rfl
  .split
   .rfl
   .exact alA
 .rfl
theorem amV{n:Int}:(kw t k n).1.map (·.1)=t.map (·.1):=by
 unfold kw
 split
 .split
  .exact alB
  .rfl
 .rfl
theorem anl:(aaq t k).1.map (·.1)=t.map (·.1):=by
 unfold aaq
 split
 .exact alB
 .rfl
theorem afB(h:kg b t):∀ p∈t.map (·.1),we p=true:=fun p hp=>by
 obtain⟨q,hq,rfl⟩:=List.mem_map.1 hp
 exact(h.ok q hq).1
theorem yh.of{c:Nat}(h:yh b s)(hc:b<=c)(ht:∀ p∈s.tbl.map (·.1),we p=true)(hk:s'.tbl.map (·.1)=s.tbl.map (·.1))(hq:Qt s'.tree)(htop:Top s.tree s'.tree)(hr:∀ n,s'.tree.lookup [47]=some n->∃ m,s.tree.lookup [47]=some m/\n.ctr=m.ctr):yh c s':=
 ⟨hq,by rw[hk];exact htop.at1 ht h.at1,htop.own1 h.own1,fun n hn=>by
  obtain⟨m,h1,h2⟩:=hr n hn
  have:=h.rt m h1
  omega⟩
theorem yh.tbl{c:Nat}(h:yh b s)(hc:b<=c)(ht:∀ p∈s.tbl.map (·.1),we p=true)(hk:s'.tbl.map (·.1)=s.tbl.map (·.1))(he:s'.tree=s.tree):yh c s':=
 h.of hc ht hk (by rw[he];exact h.qt) (by rw[he];exact Top.refl _) fun n hn=>⟨n,by rw[<-he];exact hn,rfl⟩
theorem apZ(hi:ww b st)(hb:b<=4398046511103)(ho:∀ k n x,st.lookup k=some n->parts k=some [x]->n.own=0):Top st (pd st home ws).1:=by
 have:=aiq (P:=fun a=>ww b a/\Top st a) (home:=home) (ws:=ws) (st:=st) (fun a p hp _ h=>?_) ⟨hi,Top.refl st⟩
 .exact this.2
 .obtain⟨n,h1,h2,_⟩:=apW hp
  exact⟨ajr h.1 hb,h.2.trans (ako h.1.inv.keys fun x e=>h2 (ho p n x h1 e))⟩
theorem art(hi:ww b st)(hb:b<=4398046511103):∀ n,(pd st home ws).1.lookup [47]=some n->∃ m,st.lookup [47]=some m/\n.ctr=m.ctr:=by
 have:=aiq (P:=fun a=>ww b a/\∀ n,a.lookup [47]=some n->∃ m,st.lookup [47]=some m/\n.ctr=m.ctr) (home:=home) (ws:=ws) (st:=st) (fun a p hp _ h=>?_) ⟨hi,fun n hn=>⟨n,hn,rfl⟩⟩
 .exact this.2
 .refine⟨ajr h.1 hb,fun n hn=>?_⟩
  rcases abZ a p (-1)with⟨e,_,he⟩ | ⟨n',u,he,_⟩
  .rw[he]at hn;exact h.2 n hn
  .rw[he]at hn
   simp only at hn
   rw[abt (by rw[ui];exact h.1.inv.keys)]at hn
   split at hn
   .cases hn
   .rw[zd]at hn
    split at hn
    .obtain⟨m',h1,h2⟩:=Option.map_eq_some_iff.1 hn
     obtain⟨m,h3,h4⟩:=h.2 m' h1
     exact⟨m,h3,by rw[<-h2];exact h4⟩
    .exact h.2 n hn
theorem aru(hi:ww b st)(hb:b<=4398046511000):∀ n,(qS st home owner qn qb ops).st.lookup [47]=some n->∃ m,st.lookup [47]=some m/\n.ctr=m.ctr:=fun n hn=>
 ⟨n,by rw[<-akh (home:=home) (owner:=owner) (qn:=qn) (qb:=qb) (ops:=ops) hi hb [47] (by rw[af1];simp)];exact hn,rfl⟩
theorem ajb{c:Nat}(h:yh b s)(hc:b<=c)(i:vE c s)(hb:c<=33554433):yh c (agh s k):=
 h.of hc (afB i.tbl) rfl (aro h.qt) (apZ i.tree (by omega) h.own1) (art i.tree (by omega))
theorem akp:∀ p∈(vm t home nonce lease).1.map (·.1),p∈t.map (·.1)\/p=home:=fun p hp=>by
 unfold vm at hp
 split at hp
 .exact .inl hp
 split at hp
 .exact .inl hp
 split at hp
 .exact .inl hp
 split at hp
 .exact .inl hp
 split at hp
 .exact .inl hp
 rw[ad9]at hp
 split at hp
 .exact .inl hp
 .rcases List.mem_append.1 hp with hp | hp
  .exact .inl hp
  .exact .inr (List.mem_singleton.1 hp)
theorem aoN(h:(vm t home nonce lease).2.2=0):we home=true:=by
 unfold vm at h
 split at h
 .cases h
 .rename_i hn;simpa using hn
theorem ap0(i:vE b s)(hb:b<=33554432)(h:yh b s):yh (b+1) (abx s c).1/\((abx s c).2.code=0->∃ n,(abx s c).1.tree.lookup (47::c.home)=some n):=by
 unfold abx
 by_cases h0:(vm s.tbl c.home c.nonce c.lease).2.2=0
 .rw[if_neg (by simpa using h0)]
  have hn:=aoN h0
  simp only
  by_cases hl:(s.tree.lookup (47::c.home)).isNone=true
  .rw[if_pos ⟨hn,hl⟩]
   have hl':s.tree.lookup (47::c.home)=none:=by simpa using hl
   obtain⟨n,hr⟩:=i.tree.inv.root
   have hrc:=h.rt n hr
   have hq:=asC i.tree hn hr (by omega) hl' h.qt
   have e:=adU i.tree hn hr (by omega) hl'
   have lk:∀ k,(wt s.tree (47::c.home) [] 0 false).1.lookup k=if k=[47]then some (jw n)else if k=47::c.home then some ⟨0,0,0,0,[]⟩else s.tree.lookup k:=fun k=>by
    rw[e]
    simp only
    rw[zd,uY]
    by_cases c1:k=[47]
    .subst c1;rw[if_pos rfl,if_pos rfl,hr];try rfl
    .rw[if_neg c1,if_neg c1]
     by_cases c2:k=47::c.home
     .subst c2;rw[if_pos rfl,hl'];simp
     .cases s.tree.lookup k with
      | none=>simp[c2]
      | some m=>simp[c2]
   have hne:(47::c.home:Str)≠[47]:=fun x=>by have:=aa4 hn;simp at x;rw[x]at this;simp at this
   have hbump:(jw n).ctr=n.ctr+1:=by
    unfold jw
    have:=(i.tree.inv.ctr0 hr)
    exact SL.wb (by omega) (by omega)
   refine⟨⟨hq,fun p hp=>?_,fun k m x hk hp=>?_,fun m hm=>?_⟩,fun _=>⟨_,by rw[lk,if_neg hne,if_pos rfl]⟩⟩
   .simp only at hp⊢
    rw[lk]
    rcases akp p hp with hp | hp
    .obtain⟨m,hm⟩:=h.at1 p hp
     split
     .exact⟨_,rfl⟩
     .split
      .exact⟨_,rfl⟩
      .exact⟨m,hm⟩
    .rw[hp,if_neg hne,if_pos rfl];exact⟨_,rfl⟩
   .simp only at hk
    rw[lk]at hk
    split at hk
    .rename_i e1
     rw[e1]at hp
     have:parts [47]=some []:=rfl
     rw[this]at hp;cases hp
    .split at hk
     .cases hk;rfl
     .exact h.own1 k m x hk hp
   .simp only at hm
    rw[lk,if_pos rfl]at hm
    cases hm
    rw[hbump];omega
  .rw[if_neg (fun x=>hl x.2)]
   have hs:∃ n,s.tree.lookup (47::c.home)=some n:=by
    cases e:s.tree.lookup (47::c.home)with
    | none=>rw[e]at hl;exact absurd rfl hl
    | some n=>exact⟨n,rfl⟩
   refine⟨⟨h.qt,fun p hp=>?_,h.own1,fun n hn=>by have:=h.rt n hn;omega⟩,fun _=>hs⟩
   rcases akp p hp with hp | hp
   .exact h.at1 p hp
   .rw[hp];exact hs
 .rw[if_pos h0]
  refine⟨⟨h.qt,h.at1,h.own1,fun n hn=>by have:=h.rt n hn;omega⟩,fun hx=>?_⟩
  unfold zh at hx
  simp only at hx
  exact absurd hx h0
theorem arv(i:vE b s)(hb:b<=33554432)(h:yh b s):yh (b+1) (doS s c).1:=by
 have ht:=afB i.tbl
 have same:yh (b+1) s:=h.tbl (by omega) ht rfl rfl
 unfold doS
 split
 .exact h.tbl (by omega) ht ank rfl
 split
 .unfold afe
  exact h.of (by omega) ht rfl (arp i.tree (by omega) h.qt) (aoM i.tree (by omega)) (aru i.tree (by omega))
 split
 .unfold adl
  split
  .exact same
  .split
   .exact same
   .exact h.tbl (by omega) ht rfl rfl
 split
 .unfold aaQ
  split
  .exact same
  .split
   .exact same
   .split
    .exact same
    .exact h.tbl (by omega) ht rfl rfl
 .exact same
theorem anm(i:vE b s)(hb:b<=33554432)(h:yh b s):yh (b+1) (vH s c).1:=by
 have ht:=afB i.tbl
 have i':vE (b+1) s:=⟨i.tree.mono (by omega),i.tbl.mono (by omega),i.hub.mono (by omega),by have:=i.ep;omega,i.mem⟩
 have same:yh (b+1) s:=h.tbl (by omega) ht rfl rfl
 unfold vH
 split
 .exact(ap0 i hb h).1
 split
 .split
  .refine ajb (b:=b+1) (h.tbl (by omega) ht amV rfl) (by omega) ?_ (by omega)
   exact⟨i'.tree,afW i'.tbl,i'.hub,i'.ep,i'.mem⟩
  .exact same
 split
 .unfold acS
  split
  .exact same
  .split
   .exact same
   .exact h.tbl (by omega) ht rfl rfl
 split
 .unfold aaw
  split
  .exact same
  split
  .exact same
  simp only
  have i1:vE b ({s with hub:=(afd s.hub c.key c.ack).1}:Sto):=⟨i.tree,i.tbl,agk i.hub,i.ep,i.mem⟩
  split
  .refine ajb (b:=b+1) (h.tbl (by omega) ht anl rfl) (by omega) ?_ (by omega)
   exact⟨i'.tree,ahb i'.tbl,agk i'.hub,i'.ep,i'.mem⟩
  .have h1:yh b ({s with hub:=(afd s.hub c.key c.ack).1}:Sto):=h.tbl (by omega) ht rfl rfl
   have h2:=arv (c:=c) i1 hb h1
   refine h2.tbl (by omega) ?_ apY rfl
   exact afB (akR (c:=c) i1 hb).tbl
 .exact same
end Zt
namespace Zt
open Go SL G Pa Wi
variable{B:World}{ro I I':AH}{tag tag':Nat->Nat}
theorem ap1{s:Sl}{l:List Int}{Q:Option Addr->Int->AH->Prop}(h:SL.zw ro I s (l.map vI))(hl:l.length<=1048576)(hr:aae l=true)
  (hQ:∀ W tag' I',StepS CN ro tag I tag' I'->yz tag' I' W (Sto.new l)->Q (some ⟨W,0,none⟩) 0 I'):abQ B ro s I Q:=by
 refine aij fun hs=>?_
 unfold adR
 refine anR h hl ?_
 rw[hr,if_neg (by simp)]
 refine afz (tag:=tag) 118 h hs (by simpa using hl) (by simp[qh]) fun ms tag1 I1 st1 r1=>?_
 refine ao7 (tag:=tag1) 10 (by decide) (by decide) fun T tag2 I2 st2 t2=>?_
 refine agq fun hs2=>?_
 unfold ach
 refine af8 kS (tag:=tag2) 119 hs2 fun M tag3 I3 st3 m3=>?_
 refine qj (tag:=tag3) 55 (st3 []).sep fun Tt tag4 I4 st4 r4=>?_
 refine ail fun hs4=>?_
 unfold adS
 refine af8 kSI (tag:=tag4) 126 hs4 fun Mh tag5 I5 st5 m5=>?_
 refine qj (tag:=tag5) 62 (st5 []).sep fun Th tag6 I6 st6 r6=>?_
 refine qj (tag:=tag6) 54 (st6 []).sep fun W tag7 I7 st7 r7=>?_
 have k6:qe [] ro tag4 I4 tag7 I7:=((st5 []).trans (st6 [])).trans (st7 [])
 have k3:qe [] ro tag3 I3 tag7 I7:=(st4 []).trans k6
 have k2:qe [] ro tag2 I2 tag7 I7:=(st3 []).trans k3
 have k5:qe [] ro tag5 I5 tag7 I7:=(st6 []).trans (st7 [])
 refine hQ W tag7 I7 (((st1 []).s (by simp)).trans ((st2.s (by simp)).trans (k2.s (by simp)))) ⟨T,Tt,Th,ms,r7,?_,t2.keep k2,⟨M,[],r4.keep k6,ym.nil (m3.keep k3)⟩,⟨Mh,[],r6.keep (st7 []),ym.nil (m5.keep k5)⟩⟩
 exact(r1.keepC st2).keep k2
theorem yz.keepS{C:List Nat}{W:Nat}{s:Sto}(h:yz tag I W s)(k:StepS C ro tag I tag' I')(hC:∀ x∈DSt,x∉C:=by decide):yz tag' I' W s:=by
 obtain⟨T,Tt,Th,ms,h⟩:=h.in
 exact(h.keepS k hC).at
abbrev CTr:List Nat:=[0,1,12,30,31]
theorem arw{b W:Nat}{s:Sto}{Q:Option Addr->AH->Prop}(g:wV ro)(h:yz tag I W s)(i:vE b s)(hb:b<=33554432)
  (hQ:∀ U tag' I',StepS CTr ro tag I tag' I'->wa tag' I' 12 U (srt s.tree)->Q (some ⟨U,0,none⟩) I'):aaZ B ro (some ⟨W,0,none⟩) I Q:=by
 obtain⟨T,Tt,Th,ms,h⟩:=h.in
 refine ahD fun hs=>?_
 unfold abj
 refine⟨_,rfl,some ⟨T,0,none⟩,(h.own.read hs).2.2 _ rfl 2 _ rfl,?_⟩
 obtain⟨M,bs,hA⟩:=h.tree
 have hlen:=i.tree.len
 refine aln (by decide) (by decide) (by decide) (by decide) (by decide) hA i.tree.inv.small (by omega) fun se tag1 I1 st1 r1=>?_
 have hel:=amu i.tree (by omega)
 have hdec:=amp (i.tree.inv3 (by omega)) (by omega)
 refine alo (tag:=tag1) (r:=12) g (by decide) (by decide) (by decide) (by decide) (r1.read st1.sep) (by omega) (fun hn=>by rw[hdec]at hn;cases hn) fun st' hst' U tag2 I2 st2 h2=>?_
 rw[hdec]at hst'
 obtain rfl:=Option.some.inj hst'
 exact hQ U tag2 I2 ((st1.s (by simp)).trans (st2.mono (by decide))) h2
theorem arx:vE 0 (Sto.new [0]):=⟨aqG,⟨by simp[Sto.new],(fun p h=>by cases h),by simp[Sto.new]⟩,⟨by simp[Sto.new],(fun p h=>by cases h),by simp[Sto.new]⟩,⟨by simp[Sto.new],by simp[Sto.new]⟩,by simp[Sto.new]⟩
theorem amW{k:Str}{n:Nd}(h:St.new.lookup k=some n):k=[47]/\n=⟨0,0,0,0,[]⟩:=by
 unfold St.new at h
 rw[List.lookup_cons]at h
 by_cases c:k=[47]
 .subst c;simp at h;exact⟨rfl,h.symm⟩
 .have:(k == [47])=false:=by simpa using c
  rw[this]at h;cases h
theorem aoO:yh 0 (Sto.new [0]):=by
 refine⟨atd,(fun p h=>by cases h),fun k n x hn hp=>?_,fun n hn=>?_⟩
 .obtain⟨_,rfl⟩:=amW hn;rfl
 .obtain⟨_,rfl⟩:=amW hn;simp
end Zt
namespace Zt
open Go SL Pa Wi
variable{reqs:Int->Int}{b done m:Nat}{s:Sto}{t:Tbl}{h:kW}
theorem ary{k:Str×Int}{s:jQ}(h1:qI t k.1=some h)(h2:1<=k.2)(h3:k.2<=h.last)(h4:qI h.live k.2=some s):jj t k=(0,some s):=by
 unfold jj
 rw[h1]
 simp only
 rw[if_neg (by omega),h4]
structure Sw(m:Nat)(reqs:Int->Int)(done:Nat)(s:Sto):Prop where
 last:(qJ s.tbl [97]).last=m
 len:(qJ s.tbl [97]).live.length=m
 non:∀ p∈(qJ s.tbl [97]).live,p.2.nonce<=m
 sess:∀ n:Int,1<=n->n<=m->∃ x,qI (qJ s.tbl [97]).live n=some x/\x.req=reqs n
 hub:s.hub=[]
 tree:∀ k n,s.tree.lookup k=some n->k=[47]\/k=[47,97]
 none0:m=0->s.tree.lookup [47,97]=none
 node:0<m->∃ n,s.tree.lookup [47,97]=some n/\n.ver=done/\n.own=0
def aci(m:Nat):vY:=⟨1,[97],0,0,(m:Int)+1,9,0,0,[],[],false,0,[]⟩
def yb(who req v:Int):vY:=⟨5,[97],who,req,0,0,0,0,[⟨3,[47,97],[120],v,false,false⟩],[],false,0,[]⟩
theorem ate:Sw 0 (fun _=>0) 0 (Sto.new [0]):=by
 refine⟨rfl,rfl,(fun p h=>by cases h),(fun n h1 h2=>by omega),rfl,fun k n h=>?_,fun _=>rfl,fun h=>by omega⟩
 unfold Sto.new St.new at h
 simp only at h
 rw[List.lookup_cons]at h
 by_cases c:k=[47]
 .exact .inl c
 .rw[show(k == [47])=false by simpa using c]at h;cases h
theorem yG{k:Str}:qJ (wD t k h) k=h:=by unfold qJ;rw[aig,if_pos rfl];try rfl
theorem akq:we [97]=true:=by decide
theorem asE(i:vE b s)(hb:b<=33554432)(hh:yh b s)(w:Sw m reqs 0 s)(hm:m<20)(hz:reqs (m+1)=0):Sw (m+1) reqs 0 (vH s (aci m)).1/\(vH s (aci m)).2.session=(m:Int)+1:=by
 have hw:adQ (qJ s.tbl [97]) ((m:Int)+1)=none:=by
  unfold adQ
  rw[List.find?_eq_none]
  intro p hp
  have:=w.non p hp
  simp only[decide_eq_true_eq]
  omega
 have e:vm s.tbl [97] ((m:Int)+1) 9=(wD s.tbl [97] (aeJ (qJ s.tbl [97]) ((m:Int)+1) 9),(m:Int)+1,0):=by
  unfold vm
  rw[if_neg (by rw[akq];simp),if_neg (by simp[aiB];omega),if_neg (by omega),hw]
  simp only
  rw[if_neg (by rw[w.len,w.last];omega),w.last]
 have hok:=aha i.tbl [97]
 have hnk:qI (qJ s.tbl [97]).live ((qJ s.tbl [97]).last+1)=none:=by
  rw[xi]
  intro hmm
  obtain⟨p,hp,e⟩:=List.mem_map.1 hmm
  have:=(hok.rng p hp).2
  omega
 have ea:vH s (aci m)=abx s (aci m):=by unfold vH;rw[if_pos (by rfl)]
 rw[ea]
 unfold abx aci
 simp only
 rw[e]
 simp only
 rw[if_neg (by simp)]
 refine⟨?_,rfl⟩
 have ht:∀ k n,(if we [97]=true/\(s.tree.lookup [47,97]).isNone=true then(wt s.tree [47,97] [] 0 false).1 else s.tree).lookup k=some n->k=[47]\/k=[47,97]:=fun k n hk=>by
  split at hk
  .rename_i c
   have hl':s.tree.lookup (47::[97])=none:=by simpa using c.2
   obtain⟨r,hr⟩:=i.tree.inv.root
   have hrc:=hh.rt r hr
   rw[adU i.tree akq hr (by omega) hl']at hk
   simp only at hk
   rw[zd]at hk
   have:(s.tree++[(47::[97],(⟨0,0,0,0,[]⟩:Nd))]).lookup k≠none:=by
    split at hk
    .intro e;rw[e]at hk;cases hk
    .rw[hk];simp
   rw[uY]at this
   cases e:s.tree.lookup k with
   | some m'=>exact w.tree k m' e
   | none=>
    rw[e]at this
    by_cases d:k=47::[97]
    .exact .inr d
    .simp[d]at this
  .exact w.tree k n hk
 have hnode:∃ n,(if we [97]=true/\(s.tree.lookup [47,97]).isNone=true then(wt s.tree [47,97] [] 0 false).1 else s.tree).lookup [47,97]=some n/\n.ver=((0:Nat):Int)/\n.own=0:=by
  split
  .rename_i c
   have hl':s.tree.lookup (47::[97])=none:=by simpa using c.2
   obtain⟨r,hr⟩:=i.tree.inv.root
   have hrc:=hh.rt r hr
   rw[adU i.tree akq hr (by omega) hl']
   refine⟨⟨0,0,0,0,[]⟩,?_,rfl,rfl⟩
   simp only
   rw[zd,if_neg (by decide),uY,hl']
   simp
  .rename_i c
   rcases Nat.eq_zero_or_pos m with h0 | h0
   .exact absurd ⟨akq,by rw[w.none0 h0];try rfl⟩ c
   .exact w.node h0
 refine⟨?_,?_,fun p hp=>?_,fun n h1 h2=>?_,w.hub,ht,fun h=>absurd h (by omega),fun _=>hnode⟩
 .simp only;rw[yG];unfold aeJ;simp only;rw[w.last];omega
 .simp only;rw[yG];unfold aeJ;simp only;rw[ae8 _ hnk,List.length_append,w.len];try rfl
 .simp only at hp
  rw[yG]at hp
  unfold aeJ at hp
  simp only at hp
  rw[ae8 _ hnk]at hp
  rcases List.mem_append.1 hp with hp | hp
  .have:=w.non p hp;omega
  .rw[List.mem_singleton.1 hp];simp
 .simp only
  rw[yG]
  unfold aeJ
  simp only
  rw[aig,w.last]
  by_cases d:n=(m:Int)+1
  .rw[if_pos d];exact⟨_,rfl,by rw[d,hz]⟩
  .rw[if_neg d];exact w.sess n h1 (by omega)
theorem atf(i:ww b s.tree)(w:Sw m reqs done s):s.tree.length<=2:=by
 have h1:∀ k∈s.tree.map (·.1),k=[47]\/k=[47,97]:=fun k hk=>by
  obtain⟨n,hn⟩:=afv hk
  exact w.tree k n hn
 have h2:=i.inv.keys
 match e:s.tree with
 | []=>simp
 | [_]=>simp
 | [_,_]=>simp
 | a::b::c::r=>
  rw[e]at h1 h2
  simp only[List.map_cons,List.nodup_cons,List.mem_cons,not_or]at h1 h2
  have ha:=h1 a.1 (.inl rfl)
  have hb:=h1 b.1 (.inr (.inl rfl))
  have hc:=h1 c.1 (.inr (.inr (.inl rfl)))
  obtain⟨⟨n1,n2,_⟩,⟨n3,_⟩,_⟩:=h2
  exfalso
  rcases ha with ha | ha<;>rcases hb with hb | hb<;>rcases hc with hc | hc<;>first | exact n1 (ha.trans hb.symm) | exact n2 (ha.trans hc.symm) | exact n3 (hb.trans hc.symm)
theorem alC:∀ l:List (Int×Str),ye [] l=[]
 | []=>rfl
 | e::l=>by
  show ye (aad [] e) l=[]
  have:aad [] e=[]:=by
   unfold aad
   split
   .rfl
   .split
    .rfl
    .simp only
     split<;>split<;>rfl
  rw[this];exact alC l
theorem atg{who req v:Int}(i:vE b s)(hb:b<=33554432)(w:Sw m reqs done s)(h1:1<=who)(h2:who<=m)(hm:m<=20)(hd:done<=1048576)(hr:reqs who<req)(hr1:1<=req)(hr2:req<=1048576):
  ((vH s (yb who req v)).2.code=0↔v= -1\/v=done)/\((v= -1\/v=done)->Sw m (fun n=>if n=who then req else reqs n) (done+1) (vH s (yb who req v)).1)/\(¬(v= -1\/v=done)->Sw m (fun n=>if n=who then req else reqs n) done (vH s (yb who req v)).1):=by
 obtain⟨x,hx,hxr⟩:=w.sess who h1 h2
 obtain⟨h,hh⟩:∃ h,qI s.tbl [97]=some h:=by
  cases e:qI s.tbl [97]with
  | some h=>exact⟨h,rfl⟩
  | none=>unfold qJ at hx;rw[e]at hx;cases hx
 have eh:qJ s.tbl [97]=h:=by unfold qJ;rw[hh];try rfl
 have hlast:h.last=m:=by rw[<-eh];exact w.last
 have hf:jj s.tbl ([97],who)=(0,some x):=ary hh h1 (by simp only;omega) (by rw[<-eh];exact hx)
 obtain⟨n,hn,hver,hown⟩:=w.node (by omega)
 have hlen:=atf i.tree w
 have ek:(yb who req v).kind=5:=rfl
 have ea:vH s (yb who req v)=aaw s (yb who req v):=by
  unfold vH
  rw[ek,if_neg (by decide),if_neg (by decide),if_neg (by decide),if_pos (by decide)]
 have ebe:kk s.tbl ([97],who) req=([],false,0):=by
  unfold kk
  rw[hf]
  simp only
  rw[if_neg (by simp[aiB];omega),if_neg (by omega),if_neg (by omega)]
 have ekey:(yb who req v).key=([97],who):=rfl
 have eack:afd s.hub ([97],who) 0=([],0):=by rw[w.hub];try rfl
 have ewi:zC [97] (⟨3,[47,97],[120],v,false,false⟩:MOp)=0:=by rfl
 have eap:∀ (st:St),(qS st [97] who 64 8192 [⟨3,[47,97],[120],v,false,false⟩])=abg st (vg [97] who 64 8192 [⟨3,[47,97],[120],v,false,false⟩] 0 ⟨srt st,[],[]⟩):=fun st=>by
  unfold qS
  rw[if_neg (by simp),if_neg (by omega)]
 have lks:∀ k,(srt s.tree).lookup k=s.tree.lookup k:=aeN i.tree.inv.keys
 have wrapv:i64.wrap (n.ver+1)=n.ver+1:=SL.wb (by omega) (by omega)
 have eset:vW (srt s.tree) [47,97] [120] v=if v≠ -1/\v≠n.ver then(srt s.tree,0,72)else(wi (srt s.tree) [47,97] (pt [120]),n.ver+1,0):=by
  unfold vW
  rw[if_neg (by decide),if_neg (by simp),lks,hn]
  simp only
  rw[wrapv]
 have ecore:xf who (srt s.tree) (⟨3,[47,97],[120],v,false,false⟩:MOp)=((vW (srt s.tree) [47,97] [120] v).1,[],(vW (srt s.tree) [47,97] [120] v).2.1,(vW (srt s.tree) [47,97] [120] v).2.2):=by
  unfold xf
  rw[if_neg (show¬(3:Int)=1 by decide),if_neg (show¬(3:Int)=2 by decide),if_pos rfl]
 have main:(¬(v= -1\/v=done)/\(qS s.tree [97] who 64 8192 [⟨3,[47,97],[120],v,false,false⟩]).st=s.tree/\(qS s.tree [97] who 64 8192 [⟨3,[47,97],[120],v,false,false⟩]).err=72)\/
   ((v= -1\/v=done)/\(qS s.tree [97] who 64 8192 [⟨3,[47,97],[120],v,false,false⟩]).st=wi (srt s.tree) [47,97] (pt [120])/\(qS s.tree [97] who 64 8192 [⟨3,[47,97],[120],v,false,false⟩]).err=0):=by
  rw[eap]
  by_cases c:v≠ -1/\v≠n.ver
  .refine .inl ⟨fun h=>h.elim c.1 fun h=>c.2 (by rw[hver];exact h),?_⟩
   rw[if_pos c]at eset
   have ed:(doE [97] who 64 8192 ⟨srt s.tree,[],[]⟩ (⟨3,[47,97],[120],v,false,false⟩:MOp)).1=72:=by
    unfold doE
    rw[if_neg (by rw[ewi];simp),ecore,eset]
    simp only
    rw[if_pos (by decide)]
   unfold vg
   rw[ed,if_pos (by decide)]
   exact⟨rfl,rfl⟩
  .refine .inr ⟨?_,?_⟩
   .by_cases d:v= -1
    .exact .inl d
    .refine .inr (Classical.byContradiction fun e=>c ⟨d,fun h=>e (by rw[h,hver])⟩)
   rw[if_neg c]at eset
   have hi2:ww (20*b) (srt s.tree):=acC i.tree
   have hi3:ww (20*b+1) (wi (srt s.tree) [47,97] (pt [120])):=by
    have:=amq (p:=[47,97]) (d:=[120]) (v:=v) hi2 (by omega)
    rw[eset]at this
    exact this
   have hul:=ajn hi3.inv [97]
   have hl2:(wi (srt s.tree) [47,97] (pt [120])).length<=2:=by
    unfold wi;rw[List.length_map,(vr _).length_eq];exact hlen
   have eov:adP (wi (srt s.tree) [47,97] (pt [120])) [97] 64 8192 3=false:=by
    unfold adP
    rw[decide_eq_false (show¬(64:Int)<((ze (wi (srt s.tree) [47,97] (pt [120])) [97]).1:Nat) by omega),decide_eq_false (show¬(8192:Int)<((ze (wi (srt s.tree) [47,97] (pt [120])) [97]).2:Nat) by omega)]
    simp
   have ed:doE [97] who 64 8192 ⟨srt s.tree,[],[]⟩ (⟨3,[47,97],[120],v,false,false⟩:MOp)=(0,⟨wi (srt s.tree) [47,97] (pt [120]),[([],n.ver+1)],[(3,[47,97])]⟩):=by
    unfold doE
    rw[if_neg (by rw[ewi];simp),ecore,eset]
    simp only
    rw[if_neg (by simp),eov]
    simp
   unfold vg
   rw[ed]
   simp only
   rw[if_neg (by simp)]
   exact⟨rfl,rfl⟩
 have edo:∀ (st:Sto),st={s with hub:=[]}->doS st (yb who req v)=({s with tree:=(qS s.tree [97] who 64 8192 [⟨3,[47,97],[120],v,false,false⟩]).st,hub:=[]},{Rep.zero with code:=(qS s.tree [97] who 64 8192 [⟨3,[47,97],[120],v,false,false⟩]).err,results:=(qS s.tree [97] who 64 8192 [⟨3,[47,97],[120],v,false,false⟩]).res,bad:=(qS s.tree [97] who 64 8192 [⟨3,[47,97],[120],v,false,false⟩]).bad}):=fun st e=>by
  subst e
  unfold doS
  rw[ek,if_neg (by decide),if_pos rfl]
  unfold afe yb
  simp only
  rw[alC]
 have een:∀ d,adj s.tbl ([97],who) req d=(adB s.tbl ([97],who) {x with req:=req,reply:=d},0):=fun d=>by
  unfold adj
  rw[hf]
  simp only
  rw[if_neg (by simp[aiB];omega),if_neg (by omega)]
 have ew:∃ d,(vH s (yb who req v)).1={s with tree:=(qS s.tree [97] who 64 8192 [⟨3,[47,97],[120],v,false,false⟩]).st,hub:=[],tbl:=adB s.tbl ([97],who) {x with req:=req,reply:=d}}/\(vH s (yb who req v)).2.code=(qS s.tree [97] who 64 8192 [⟨3,[47,97],[120],v,false,false⟩]).err:=by
  rw[ea]
  unfold aaw
  rw[ekey,show(yb who req v).req=req from rfl,show(yb who req v).ack=0 from rfl,ebe,eack]
  simp only
  rw[if_neg (by simp),if_neg (by simp),ek,if_neg (by decide),edo _ rfl]
  simp only
  rw[een]
  exact⟨_,rfl,trivial⟩
 obtain⟨d,e1,e2⟩:=ew
 have hset:adB s.tbl ([97],who) {x with req:=req,reply:=d}=wD s.tbl [97] {h with live:=wD h.live who {x with req:=req,reply:=d}}:=by unfold adB;rw[hh]
 have hl:(wD h.live who ({x with req:=req,reply:=d}:jQ)).length=h.live.length:=ai8 (by rw[<-eh];exact hx)
 have sw:∀ (dn:Nat),(∀k n,(qS s.tree [97] who 64 8192 [⟨3,[47,97],[120],v,false,false⟩]).st.lookup k=some n->k=[47]\/k=[47,97])->(∃n,(qS s.tree [97] who 64 8192 [⟨3,[47,97],[120],v,false,false⟩]).st.lookup [47,97]=some n/\n.ver=dn/\n.own=0)->Sw m (fun n=>if n=who then req else reqs n) dn (vH s (yb who req v)).1:=fun dn g1 g2=>by
  rw[e1]
  refine⟨?_,?_,fun p hp=>?_,fun q q1 q2=>?_,rfl,g1,fun h=>absurd h (by omega),fun _=>g2⟩
  .simp only;rw[hset,yG];exact hlast
  .simp only;rw[hset,yG];simp only;rw[hl,<-eh];exact w.len
  .simp only at hp
   rw[hset,yG]at hp
   simp only at hp
   rcases afg hp with e | hp
   .rw[e]
    have:=w.non (who,x) (by rw[eh];exact pS (by rw[<-eh];exact hx))
    exact this
   .exact w.non p (by rw[eh];exact hp)
  .simp only
   rw[hset,yG]
   simp only
   rw[aig]
   by_cases c:q=who
   .rw[if_pos c,if_pos c];exact⟨_,rfl,rfl⟩
   .rw[if_neg c,if_neg c,<-eh];exact w.sess q q1 q2
 rcases main with⟨m1,m2,m3⟩ | ⟨m1,m2,m3⟩
 .refine⟨?_,fun h=>absurd h m1,fun _=>sw done ?_ ?_⟩
  .rw[e2,m3];exact⟨(fun h=>by cases h),fun h=>absurd h m1⟩
  .rw[m2];exact w.tree
  .rw[m2];exact⟨n,hn,hver,hown⟩
 .refine⟨?_,fun _=>sw (done+1) ?_ ?_,fun h=>absurd m1 h⟩
  .rw[e2,m3];exact⟨fun _=>m1,fun _=>rfl⟩
  .rw[m2]
   intro k n' hk
   rw[zd]at hk
   split at hk
   .rename_i e;exact .inr e
   .rw[lks]at hk;exact w.tree k n' hk
  .rw[m2,zd,if_pos rfl,lks,hn]
   refine⟨_,rfl,?_,hown⟩
   show i64.wrap (n.ver+1)=_
   rw[wrapv,hver];simp
end Zt
namespace G
open Go SL
variable{B:World}{ro I:AH}
def jq(B:World)(ro:AH)(Q:Bool->AH->Prop)(u0:Bool)(I:AH):=
 Q u0 I
def yC(B:World)(ro:AH)(Q:Bool->AH->Prop)(u0:Bool)(I:AH):=
 Q u0 I
def xS(B:World)(ro:AH)(Q:Bool->AH->Prop)(u0:Bool)(I:AH):=
 if u0=true then
 aca B ro I fun u1 I=>
 yC B ro Q u1 I
 else
 yC B ro Q false I
def jr(B:World)(ro:AH)(u0:Option Addr)(Q:Bool->AH->Prop)(u1:Int)(I:AH):=
 aaZ B ro u0 I fun u2 I=>
 if u2=none then
 Q false I
 else
 xj B ro u2 (⟨#[47,97]⟩:ByteArray) I fun u3 u4 u5 u6 u7 u8 I=>
 nw ro I (.cells #[.int .i64 0,.int .i64 0,.int .i64 0,.int .i64 0] 26) fun u9 I=>
 stN ⟨u9,0,none⟩ (fun I=>
 if u8=0 then
  ∃u10,qa ro I ⟨u9,0,none⟩=some (.int .i64 u10)/\
  xS B ro Q (decide (u10=u1)) I
 else
 xS B ro Q false I) [.int .i64 u4,.int .i64 u5,.int .i64 u6,.int .i64 u7] 0 I
def zW(B:World)(ro:AH)(a0:Int)(a1:Sl)(u0:Option Addr)(u1:Nat)(u2:Int)(Q:Bool->AH->Prop)(Y22:(Int×Int)->AH->Prop)(u3:Int)(I:AH):=
 Y22 (u3,i64.wrap (u2+1)) I
def kz(B:World)(ro:AH)(a0:Int)(a1:Sl)(u0:Int)(u1:Nat)(u2:Option Addr)(u3:Nat)(u4 u5:Int)(Q:Bool->AH->Prop)(Y22:(Int×Int)->AH->Prop)(u6:Bool)(I:AH):=
 if¬((decide (u5=0))=u6)then
 Q false I
 else
 ∃u7,qa ro I ⟨u1,0,none⟩=some (.int .i64 u7)/\
 if u7=0 then
 zW B ro a0 a1 u2 u3 u4 Q Y22 (i64.wrap (u0+1)) I
 else
 zW B ro a0 a1 u2 u3 u4 Q Y22 u0 I
def kC(B:World)(ro:AH)(a0:Int)(a1:Sl)(u0:Option Addr)(u1:Nat)(Q:Bool->AH->Prop):(Int×Int)->AH->((Int×Int)->AH->Prop)->Prop:=fun⟨u2,u3⟩ I Y22=>
 if u3<(a1.len:Int)then
 ∃p4,a1.a=some p4/\(0:Int)<=u3/\u3<(a1.len:Int)/\
 ∃u5 u6,qg ro I (p4.add (Int.toNat u3*2)) 0 [.int .i64 u5,.int .i64 u6]/\
 nw ro I (.cells #[.int .i64 0,.int .i64 0] 70) fun u7 I=>
 stN ⟨u7,0,none⟩ (fun I=>
  ∃u8,qa ro I ((⟨u7,0,none⟩:Addr).add (Int.toNat 0*1))=some (.int .i64 u8)/\
  if(u8<1)\/(a0<u8)then
  zW B ro a0 a1 u0 u1 u3 Q Y22 u2 I
  else
  ∃p9:Addr,(⟨some ⟨u1,0,none⟩,Int.toNat (i64.wrap (a0+1)),Int.toNat (i64.wrap (a0+1))⟩:Sl).a=some p9/\(0:Int)<=u8/\u8<((⟨some ⟨u1,0,none⟩,Int.toNat (i64.wrap (a0+1)),Int.toNat (i64.wrap (a0+1))⟩:Sl).len:Int)/\
  ∃u10,qa ro I (p9.add (Int.toNat u8*1))=some (.int .i64 u10)/\
  ∃p11:Addr,(⟨some ⟨u1,0,none⟩,Int.toNat (i64.wrap (a0+1)),Int.toNat (i64.wrap (a0+1))⟩:Sl).a=some p11/\(0:Int)<=u8/\u8<((⟨some ⟨u1,0,none⟩,Int.toNat (i64.wrap (a0+1)),Int.toNat (i64.wrap (a0+1))⟩:Sl).len:Int)/\
  stN (p11.add (Int.toNat u8*1)) (fun I=>
  yP I fun ψ I=>
   ∃p12:Addr,(⟨some ⟨u1,0,none⟩,Int.toNat (i64.wrap (a0+1)),Int.toNat (i64.wrap (a0+1))⟩:Sl).a=some p12/\(0:Int)<=u8/\u8<((⟨some ⟨u1,0,none⟩,Int.toNat (i64.wrap (a0+1)),Int.toNat (i64.wrap (a0+1))⟩:Sl).len:Int)/\
   ∃u13,qa (join ro ψ) (fun _=>none) (p12.add (Int.toNat u8*1))=some (.int .i64 u13)/\
   ∃u14,qa (join ro ψ) (fun _=>none) ((⟨u7,0,none⟩:Addr).add (Int.toNat 1*1))=some (.int .i64 u14)/\
   nw (join ro ψ) I (.cells #[.int .u8 120] 5) fun u15 I=>
   awp prog (join ro ψ) (convert 24 24 (Sl.v (⟨some ⟨u15,0,none⟩,1,1⟩:Sl))) (fun v I=>
   (∃(u16:Sl),v=Sl.v u16/\
    nw (join ro ψ) I (.cells #[.int .i64 3,.string (⟨#[47,97]⟩:ByteArray),Sl.v u16,.int .i64 u14,.bool false,.bool false] 72) fun u17 I=>
    kX B (join ro ψ) u0 5 (⟨#[97]⟩:ByteArray) u8 u13 0 0 0 0 (⟨some ⟨u17,0,none⟩,1,1⟩:Sl) ByteArray.empty false 0 (⟨none,0,0⟩:Sl) I fun u18 u19 u20 u21 u22 u23 u24 u25 u26 u27 u28 u29 I=>
    nw (join ro ψ) I (.cells #[.int .i64 0,.int .i64 0,Sl.v (⟨none,0,0⟩:Sl),.int .i64 0,Sl.v (⟨none,0,0⟩:Sl),.int .i64 0,.int .i64 0,.int .i64 0,.int .i64 0,Sl.v (⟨none,0,0⟩:Sl),Sl.v (⟨none,0,0⟩:Sl),.int .i64 0] 30) fun u30 I=>
    (qP ψ I->(fun I=>
    stN ⟨u30,0,none⟩ (fun I=>
     ∃u31,qa ro I ⟨u30,0,none⟩=some (.int .i64 u31)/\
     ∃u32,qa ro I ((⟨u7,0,none⟩:Addr).add (Int.toNat 1*1))=some (.int .i64 u32)/\
     if u32=(-1)then
     kz B ro a0 a1 u2 u30 u0 u1 u3 u31 Q Y22 true I
     else
     ∃u33,qa ro I ((⟨u7,0,none⟩:Addr).add (Int.toNat 1*1))=some (.int .i64 u33)/\
     kz B ro a0 a1 u2 u30 u0 u1 u3 u31 Q Y22 (decide (u33=u2)) I) [.int .i64 u18,.int .i64 u19,Sl.v u20,.int .i64 u21,Sl.v u22,.int .i64 u23,.int .i64 u24,.int .i64 u25,.int .i64 u26,Sl.v u27,Sl.v u28,.int .i64 u29] 0 I) (join ψ I)))) I) [.int .i64 (i64.wrap (u10+1))] 0 I) [.int .i64 u5,.int .i64 u6] 0 I
 else
 jr B ro u0 Q u2 I
def pA(B:World)(ro:AH)(a0:Int)(a1:Sl)(u0:Option Addr)(Q:Bool->AH->Prop)(I:AH):=
 ((0:Int)<=(i64.wrap (a0+1))/\(i64.wrap (a0+1))<=(i64.wrap (a0+1))/\((i64.wrap (a0+1)):Int)<=281474976710656/\8*((i64.wrap (a0+1)):Int)<=281474976710656)/\
 nw ro I (.cells (aaL (.int .i64 0) (Int.toNat (i64.wrap (a0+1))*1)) 3) fun u1 I=>
 lfpD (kC B ro a0 a1 u0 u1 Q) (0,0) I
def kF(B:World)(ro:AH)(a0:Int)(a1:Sl)(u0:Option Addr)(Q:Bool->AH->Prop):Int->AH->(Int->AH->Prop)->Prop:=fun u1 I Y48=>
 if u1<a0 then
 kX B ro u0 1 (⟨#[97]⟩:ByteArray) 0 0 (i64.wrap (u1+1)) 9 0 0 (⟨none,0,0⟩:Sl) ByteArray.empty false 0 (⟨none,0,0⟩:Sl) I fun u2 u3 u4 u5 u6 u7 u8 u9 u10 u11 u12 u13 I=>
 nw ro I (.cells #[.int .i64 0,.int .i64 0,Sl.v (⟨none,0,0⟩:Sl),.int .i64 0,Sl.v (⟨none,0,0⟩:Sl),.int .i64 0,.int .i64 0,.int .i64 0,.int .i64 0,Sl.v (⟨none,0,0⟩:Sl),Sl.v (⟨none,0,0⟩:Sl),.int .i64 0] 30) fun u14 I=>
 stN ⟨u14,0,none⟩ (fun I=>
  ∃u15,qa ro I ((⟨u14,0,none⟩:Addr).add 1)=some (.int .i64 u15)/\
  if¬(u15=(i64.wrap (u1+1)))then
  Q false I
  else
  Y48 (i64.wrap (u1+1)) I) [.int .i64 u2,.int .i64 u3,Sl.v u4,.int .i64 u5,Sl.v u6,.int .i64 u7,.int .i64 u8,.int .i64 u9,.int .i64 u10,Sl.v u11,Sl.v u12,.int .i64 u13] 0 I
 else
 pA B ro a0 a1 u0 Q I
def abo(B:World)(ro:AH)(a0:Int)(a1:Sl)(I:AH)(Q:Bool->AH->Prop):=
 nw ro I (.cells #[.int .i64 0] 3) fun u0 I=>
 abQ B ro (⟨some ⟨u0,0,none⟩,1,1⟩:Sl) I fun u1 u2 I=>
 if((((u1=none)\/(¬(u2=0)))\/(a0<1))\/(20<a0))\/(200<(a1.len:Int))then
 if¬(u1=none)then
  aca B ro I fun u3 I=>
  jq B ro Q u3 I
 else
 jq B ro Q false I
 else
 lfpD (kF B ro a0 a1 u1 Q) (0) I
theorem ahG{a0:Int}{a1:Sl}{Q:Bool->AH->Prop}(h:Sep ro I->abo B ro a0 a1 I Q):ad0 B ro a0 a1 I Q:=by
 refine zb h func6 ntmps6 fun h=>?_;unfold abo at h;refine z3 ?_;refine zp ?_;refine z4 ?_;refine zA (zR (vs:=[(0,.int .i64 0)]) (cs:= #[.int .i64 0]) rfl underlying55 ty3 (by decide) rfl rfl) h fun u0 h=>?_;refine zc func21 h ?_;rintro v I ⟨u1,u2,rfl,h⟩;iterate 5 refine zp ?_
 refine z2 (AW.seq (z3 ?_))
 refine zp ?_;refine zm (adK rfl underlying51 rfl rfl) ?_;refine zp ?_;refine wW 3 u1.isNone [(0,.int .i64 a0),(1,Sl.v a1),(5,.pointer u1),(29,.bool (u1.isNone || (!(decide (u2=0)))))] ?_ ?_ ?_
 .intro e2 hk2
  iterate 2 refine zn e2 ?_
  refine zk e2 ?_;exact hk2 _ (Fe e2)
 .intro e2 hk2
  refine zy e2 ?_;refine zy e2 ?_;refine zk e2 ?_;exact hk2 _ (Fe e2)
 intro fr hl
 refine Lfr hl ?_
 refine zp ?_;refine wW 3 (u1.isNone || (!(decide (u2=0)))) [(0,.int .i64 a0),(1,Sl.v a1),(5,.pointer u1),(33,.bool ((u1.isNone || (!(decide (u2=0)))) || (decide (a0<1))))] ?_ ?_ ?_
 .intro e6 hk6
  iterate 2 refine zn e6 ?_
  refine zk e6 ?_;exact hk6 _ (Fe e6)
 .intro e6 hk6
  refine zy e6 ?_;refine zy e6 ?_;refine zk e6 ?_;exact hk6 _ (Fe e6)
 intro fr hl
 refine Lfr hl ?_
 refine zp ?_;refine wW 3 ((u1.isNone || (!(decide (u2=0)))) || (decide (a0<1))) [(0,.int .i64 a0),(1,Sl.v a1),(5,.pointer u1),(37,.bool (((u1.isNone || (!(decide (u2=0)))) || (decide (a0<1))) || (decide (20<a0))))] ?_ ?_ ?_
 .intro e10 hk10
  iterate 2 refine zn e10 ?_
  refine zk e10 ?_;exact hk10 _ (Fe e10)
 .intro e10 hk10
  refine zy e10 ?_;refine zy e10 ?_;refine zk e10 ?_;exact hk10 _ (Fe e10)
 intro fr hl
 refine Lfr hl ?_
 refine zp ?_;refine wW 4 (((u1.isNone || (!(decide (u2=0)))) || (decide (a0<1))) || (decide (20<a0))) [(0,.int .i64 a0),(1,Sl.v a1),(5,.pointer u1),(42,.bool ((((u1.isNone || (!(decide (u2=0)))) || (decide (a0<1))) || (decide (20<a0))) || (decide (200<(a1.len:Int)))))] ?_ ?_ ?_
 .intro e14 hk14
  iterate 3 refine zn e14 ?_
  refine zk e14 ?_;exact hk14 _ (Fe e14)
 .intro e14 hk14
  refine zy e14 ?_;refine qX (qT rfl rfl underlying69 rfl rfl) rfl rfl rfl rfl e14 ?_
  refine zy e14 ?_;refine zk e14 ?_;exact hk14 _ (Fe e14)
 intro fr hl
 refine Lfr hl ?_
 refine z2 ?_;refine AW.iff rfl (zG (zG (zG (zG zt (qu decide_eq_true_iff)) decide_eq_true_iff) decide_eq_true_iff) decide_eq_true_iff) h (fun h=>?_) (fun h=>?_)
 .refine z3 ?_;refine zp ?_;refine zm (ajQ rfl underlying51 rfl rfl) ?_;refine zp ?_;refine qO 2 (!u1.isNone) (qu zt) h (fun fr I=> ∃(u3:Bool),qo [(47,.bool u3)] fr/\jq B ro Q u3 I) ?_ ?_ ?_
  .intro h e2 hk2;refine Lyb rfl rfl rfl rfl e2 (qF rfl func20 rfl rfl rfl (qc.mono h ?_))
   rintro v I ⟨u4,rfl,h⟩;refine zk e2 ?_;exact hk2 _ _ ⟨_,FL,h⟩
  .intro h e2 hk2;refine zn e2 ?_;refine zk e2 ?_;exact hk2 _ _ ⟨_,FL,h⟩
  rintro fr I ⟨u3,hl,h⟩;unfold jq at h;refine Lfr hl ?_
  refine zp ?_;refine z2 ?_;refine AW.ret ?_;refine qi ?_;exact bR1 results6 rfl ⟨_,rfl,h⟩
 refine AW.skip ?_;refine qd ?_;refine AW.seqJ (fun fr I=>qo [(0,.int .i64 a0),(1,Sl.v a1),(5,.pointer u1)] fr/\pA B ro a0 a1 u1 Q I) ?_ ?_
 rotate_left
 .refine z3 ?_;iterate 2 refine zp ?_
  refine z2 (AW.block ?_)
  refine qk.loop (fr':=[(0,.int .i64 a0),(1,Sl.v a1),(5,.pointer u1),(48,.int .i64 a0),(49,.int .i64 0)]) ?_ FL
  refine h (fun u5 I=>qk _ _ _ _ _ _ [(0,.int .i64 a0),(1,Sl.v a1),(5,.pointer u1),(48,.int .i64 a0),(49,.int .i64 u5)] I) ?_
  rintro u5 I Y48 hY48 h
  show AW _ _ _ _ _ _ _ _
  unfold kF at h;refine z3 ?_;refine zp ?_;refine z2 (AW.seq ?_)
  refine zi h (fun h=>?_) fun h=>?_
  rotate_left
  .refine AW.exit ?_;refine qH (qH ?_);refine wB ?_
   refine qd ?_;exact⟨FL,h⟩
  refine AW.skip ?_;refine qd (AW.seq (AW.block (z3 ?_)));iterate 2 refine zp ?_
  refine z4 ?_;iterate 3 refine zp ?_
  refine zm (wz (vs:=[(0,.int .i64 1),(1,.string (⟨#[97]⟩:ByteArray)),(4,.int .i64 (i64.wrap (u5+1))),(5,.int .i64 9)]) (cs:= #[.int .i64 1,.string (⟨#[97]⟩:ByteArray),.int .i64 0,.int .i64 0,.int .i64 (i64.wrap (u5+1)),.int .i64 9,.int .i64 0,.int .i64 0,Sl.v (⟨none,0,0⟩:Sl),.string ByteArray.empty,.bool false,.int .i64 0,Sl.v (⟨none,0,0⟩:Sl)]) rfl underlying57 aaY aqk rfl (by kernel_rfl)) ?_
  refine zc func22 h ?_;rintro v I ⟨u6,u7,u8,u9,u10,u11,u12,u13,u14,u15,u16,u17,rfl,h⟩;refine zA (qY rfl qM) h fun u18 h=>?_;refine zs qM h fun I h=>?_;refine z4 ?_;refine zf underlying30 ty3 ?_;refine zL underlying3 h fun u19 h=>?_;iterate 3 refine zp ?_
  refine z2 ?_;refine AW.iff rfl (qu decide_eq_true_iff) h (fun h=>?_) (fun h=>?_)
  .refine z3 ?_;refine zp ?_;refine z2 ?_;refine AW.ret ?_;refine qx (qi (qi (qx (qi ?_))));exact bR1 results6 rfl ⟨_,rfl,h⟩
  refine AW.skip ?_;refine qD (qd (AW.reg ?_));iterate 2 refine zp ?_
  refine z2 ?_;refine qk.head (fr':=[(0,.int .i64 a0),(1,Sl.v a1),(5,.pointer u1),(48,.int .i64 a0),(49,.int .i64 (i64.wrap (u5+1)))]) ?_ FL
  exact hY48 _ _ h
 rintro fr I ⟨hl,h⟩;refine AW.weaken ?_ hl (HLe.refl _)
 unfold pA at h;refine z3 ?_;iterate 2 refine zp ?_
 obtain⟨⟨h0,h1,h2,h3⟩,h⟩:=h
 refine zA (arD rfl underlying55 ty3 rfl rfl h0 h1 h2 h3) h fun u20 h=>?_;refine zp ?_;refine z4 ?_;refine zp ?_;refine z2 ?_;refine AW.seqJ (fun fr I=> ∃(u21:Int),qo [(5,.pointer u1),(10,.int .i64 u21)] fr/\jr B ro u1 Q u21 I) ?_ ?_
 .rintro fr I ⟨u21,hl,h⟩;refine AW.weaken ?_ hl (HLe.refl _)
  unfold jr at h;refine z3 ?_;refine zp ?_;refine zc func24 h ?_;rintro v I ⟨u22,rfl,h⟩;refine zp ?_;refine z2 (AW.seq (z3 ?_))
  refine zp ?_;refine zm (adK rfl underlying61 rfl rfl) ?_;refine z2 ?_;refine AW.iff rfl zt h (fun h=>?_) (fun h=>?_)
  .refine z3 ?_;refine zp ?_;refine z2 ?_;refine AW.ret ?_;refine qi ?_;exact bR1 results6 rfl ⟨_,rfl,h⟩
  refine AW.skip ?_;refine qd (z3 ?_);refine zp ?_;refine zc func25 h ?_;rintro v I ⟨u23,u24,u25,u26,u27,u28,rfl,h⟩;iterate 4 refine zp ?_
  refine zA (qY rfl wA) h fun u29 h=>?_;refine zp ?_;refine zs wA h fun I h=>?_;refine zp ?_;refine z4 ?_;iterate 3 refine zp ?_
  refine qO 5 (decide (u28=0)) decide_eq_true_iff h (fun fr I=> ∃(u30:Bool),qo [(137,.bool u30)] fr/\xS B ro Q u30 I) ?_ ?_ ?_
  .intro h e2 hk2;refine qX (wm rfl underlying26 rfl ty3 (by decide) rfl) rfl rfl rfl rfl e2 ?_
   obtain⟨u31,hc,h⟩:=h
   refine Lyb rfl rfl rfl rfl e2 (vG rfl underlying3 rfl rfl hc ?_)
   refine zy e2 ?_;refine zy e2 ?_;refine zk e2 ?_;exact hk2 _ _ ⟨_,FL,h⟩
  .intro h e2 hk2;iterate 4 refine zn e2 ?_
   refine zk e2 ?_;exact hk2 _ _ ⟨_,FL,h⟩
  rintro fr I ⟨u30,hl,h⟩;unfold xS at h;refine Lfr hl ?_
  refine zp ?_;refine qO 2 u30 Iff.rfl h (fun fr I=> ∃(u32:Bool),qo [(140,.bool u32)] fr/\yC B ro Q u32 I) ?_ ?_ ?_
  .intro h e8 hk8;refine Lyb rfl rfl rfl rfl e8 (qF rfl func20 rfl rfl rfl (qc.mono h ?_))
   rintro v I ⟨u33,rfl,h⟩;refine zk e8 ?_;exact hk8 _ _ ⟨_,FL,h⟩
  .intro h e8 hk8;refine zn e8 ?_;refine zk e8 ?_;exact hk8 _ _ ⟨_,FL,h⟩
  rintro fr I ⟨u32,hl,h⟩;unfold yC at h;refine Lfr hl ?_
  refine zp ?_;refine z2 ?_;refine AW.ret ?_;exact bR1 results6 rfl ⟨_,rfl,h⟩
 refine z3 ?_;refine zp ?_;refine zm (qT rfl rfl underlying69 rfl rfl) ?_;refine zp ?_;refine z2 (AW.block ?_)
 refine qk.loop (fr':=[(0,.int .i64 a0),(5,.pointer u1),(9,Sl.v (⟨some ⟨u20,0,none⟩,Int.toNat (i64.wrap (a0+1)),Int.toNat (i64.wrap (a0+1))⟩:Sl)),(66,Sl.v a1),(67,.int .i64 (a1.len:Int)),(10,.int .i64 0),(68,.int .i64 0)]) ?_ FL
 refine h (fun⟨u34,u35⟩ I=>qk _ _ _ _ _ _ [(0,.int .i64 a0),(5,.pointer u1),(9,Sl.v (⟨some ⟨u20,0,none⟩,Int.toNat (i64.wrap (a0+1)),Int.toNat (i64.wrap (a0+1))⟩:Sl)),(66,Sl.v a1),(67,.int .i64 (a1.len:Int)),(10,.int .i64 u34),(68,.int .i64 u35)] I) ?_
 rintro⟨u34,u35⟩ I Y22 hY22 h
 show AW _ _ _ _ _ _ _ _
 unfold kC at h;dsimp only at h;refine z3 ?_;refine zp ?_;refine z2 (AW.seq ?_)
 refine zi h (fun h=>?_) fun h=>?_
 rotate_left
 .refine AW.exit ?_;refine qH (qH ?_);refine wB ?_
  refine qd ?_;exact⟨_,FL,h⟩
 refine AW.skip ?_;refine qd ?_;refine AW.seqJ (fun fr I=> ∃(u36:Int),qo [(0,.int .i64 a0),(5,.pointer u1),(9,Sl.v (⟨some ⟨u20,0,none⟩,Int.toNat (i64.wrap (a0+1)),Int.toNat (i64.wrap (a0+1))⟩:Sl)),(66,Sl.v a1),(67,.int .i64 (a1.len:Int)),(68,.int .i64 u35),(10,.int .i64 u36)] fr/\zW B ro a0 a1 u1 u20 u35 Q Y22 u36 I) ?_ ?_
 .rintro fr I ⟨u36,hl,h⟩;refine AW.weaken ?_ hl (HLe.refl _)
  unfold zW at h;refine AW.reg ?_;iterate 2 refine zp ?_
  refine z2 ?_;refine qk.head (fr':=[(0,.int .i64 a0),(5,.pointer u1),(9,Sl.v (⟨some ⟨u20,0,none⟩,Int.toNat (i64.wrap (a0+1)),Int.toNat (i64.wrap (a0+1))⟩:Sl)),(66,Sl.v a1),(67,.int .i64 (a1.len:Int)),(10,.int .i64 u36),(68,.int .i64 (i64.wrap (u35+1)))]) ?_ FL
  exact hY22 _ _ h
 refine AW.block (z3 ?_);obtain⟨p37,ha,h0,h1,h⟩:=h
 refine zm (vv rfl underlying69 an9 (ixL rfl ha) rfl h0 h1) ?_;obtain⟨u38,u39,hc,h⟩:=h
 refine zl (wY rfl underlying70 rfl an9 rfl hc ?_)
 refine zA (qY rfl an9) h fun u40 h=>?_;refine zs an9 h fun I h=>?_;refine z4 ?_;refine zm (alT rfl underlying70 ty3 rfl rfl (by decide) (by decide)) ?_;refine zL underlying3 h fun u41 h=>?_;refine zp ?_;refine z2 (AW.seq (z3 ?_))
 iterate 3 refine zp ?_
 refine wW 4 (decide (u41<1)) [(0,.int .i64 a0),(5,.pointer u1),(9,Sl.v (⟨some ⟨u20,0,none⟩,Int.toNat (i64.wrap (a0+1)),Int.toNat (i64.wrap (a0+1))⟩:Sl)),(10,.int .i64 u34),(12,.pointer (some ⟨u40,0,none⟩)),(13,.int .i64 u41),(66,Sl.v a1),(67,.int .i64 (a1.len:Int)),(68,.int .i64 u35),(80,.bool ((decide (u41<1)) || (decide (a0<u41))))] ?_ ?_ ?_
 .intro e2 hk2
  iterate 3 refine zn e2 ?_
  refine zk e2 ?_;exact hk2 _ (Fe e2)
 .intro e2 hk2
  refine zy e2 ?_;refine zy e2 ?_;refine zy e2 ?_;refine zk e2 ?_;exact hk2 _ (Fe e2)
 intro fr hl
 refine Lfr hl ?_
 refine z2 ?_;refine AW.iff rfl (zG decide_eq_true_iff decide_eq_true_iff) h (fun h=>?_) (fun h=>?_)
 .refine AW.exit ?_;refine qH ?_;refine wB ?_
  refine qd ?_;exact⟨_,FL,h⟩
 refine AW.skip ?_;refine qd (z3 ?_);iterate 2 refine zp ?_
 obtain⟨p42,ha,h0,h1,h⟩:=h
 refine zm (vv rfl underlying55 ty3 (ixL rfl ha) rfl h0 h1) ?_;refine zL underlying3 h fun u43 h=>?_;refine zp ?_;obtain⟨p44,ha,h0,h1,h⟩:=h
 refine zm (vv rfl underlying55 ty3 (ixL rfl ha) rfl h0 h1) ?_;refine zs ty3 h fun I h=>?_;refine z2 (AW.seq ?_)
 refine AW.drawn2 (fun i=>([0,0,0,0,0,0,1,2,0,0,0,1,0,2,1,2]:List Nat).getD i 2) [(6,7),(6,10),(6,11),(6,12),(6,13),(7,10),(7,11),(7,12),(7,13),(11,12),(11,13)] [0,1,2,3,4,5,8,9,6,7,10,11,12,13,14] [15] mixed h (by decide+kernel) ?_
 clear h
 intro ψ I h
 iterate 4 refine zq ?_
 obtain⟨p45,ha,h0,h1,h⟩:=h
 refine Dp rfl rfl rfl rfl (vv rfl underlying55 ty3 (ixL rfl ha) rfl h0 h1) ?_
 obtain⟨u46,hc,h⟩:=h
 refine Dp rfl rfl rfl rfl (yQ rfl underlying3 rfl rfl hc) ?_
 refine Dp rfl rfl rfl rfl (alT rfl underlying70 ty3 rfl rfl (by decide) (by decide)) ?_
 obtain⟨u47,hc,h⟩:=h
 refine Dp rfl rfl rfl rfl (yQ rfl underlying3 rfl rfl hc) ?_
 refine Da rfl rfl rfl rfl (zR (vs:=[(0,.int .u8 120)]) (cs:= #[.int .u8 120]) rfl underlying24 ty5 (by decide) rfl rfl) fun u48 g1 g2=>?_
 replace h:=h u48 g1 g2
 refine Dg rfl rfl rfl rfl (arH rfl rfl (qm _ h ?_))
 rintro v I ⟨u49,rfl,h⟩;refine Dp rfl rfl rfl rfl (wz (vs:=[(0,.int .i64 3),(1,.string (⟨#[47,97]⟩:ByteArray)),(2,Sl.v u49),(3,.int .i64 u47)]) (cs:= #[.int .i64 3,.string (⟨#[47,97]⟩:ByteArray),Sl.v u49,.int .i64 u47,.bool false,.bool false]) rfl underlying72 ahO at5 rfl rfl) ?_
 refine Da rfl rfl rfl rfl (zR (vs:=[(0,.agg #[.int .i64 3,.string (⟨#[47,97]⟩:ByteArray),Sl.v u49,.int .i64 u47,.bool false,.bool false])]) (cs:= #[.int .i64 3,.string (⟨#[47,97]⟩:ByteArray),Sl.v u49,.int .i64 u47,.bool false,.bool false]) rfl underlying54 ahO (by decide) rfl rfl) fun u50 g1 g2=>?_
 replace h:=h u50 g1 g2
 refine Dp rfl rfl rfl rfl (wz (vs:=[(0,.int .i64 5),(1,.string (⟨#[97]⟩:ByteArray)),(2,.int .i64 u41),(3,.int .i64 u46),(8,Sl.v (⟨some ⟨u50,0,none⟩,1,1⟩:Sl))]) (cs:= #[.int .i64 5,.string (⟨#[97]⟩:ByteArray),.int .i64 u41,.int .i64 u46,.int .i64 0,.int .i64 0,.int .i64 0,.int .i64 0,Sl.v (⟨some ⟨u50,0,none⟩,1,1⟩:Sl),.string ByteArray.empty,.bool false,.int .i64 0,Sl.v (⟨none,0,0⟩:Sl)]) rfl underlying57 aaY aqk rfl (by kernel_rfl)) ?_
 refine Dg rfl rfl rfl rfl (qF rfl func22 rfl rfl rfl (qc.mono h ?_))
 rintro v I ⟨u51,u52,u53,u54,u55,u56,u57,u58,u59,u60,u61,u62,rfl,h⟩;refine Da rfl rfl rfl rfl (qY rfl qM) fun u63 g1 g2=>?_
 replace h:=h u63 g1 g2
 refine⟨_,zr.refl _,fun hdj=>?_⟩
 replace h:=h hdj
 refine Dg rfl rfl rfl rfl (yR rfl qM rfl rfl rfl rfl (zD h fun I h=>?_))
 refine wH ?_
 refine qd (AW.seq (z3 ?_));refine zf underlying30 adv ?_;refine zL underlying22 h fun u64 h=>?_;refine zp ?_;refine zm (alT rfl underlying70 ty3 rfl rfl (by decide) (by decide)) ?_;refine zL underlying3 h fun u65 h=>?_;iterate 2 refine zp ?_
 refine qO 5 (decide (u65=(-1))) decide_eq_true_iff h (fun fr I=> ∃(u66:Bool),qo [(0,.int .i64 a0),(5,.pointer u1),(9,Sl.v (⟨some ⟨u20,0,none⟩,Int.toNat (i64.wrap (a0+1)),Int.toNat (i64.wrap (a0+1))⟩:Sl)),(10,.int .i64 u34),(14,.pointer (some ⟨u63,0,none⟩)),(66,Sl.v a1),(67,.int .i64 (a1.len:Int)),(68,.int .i64 u35),(103,.bool (decide (u64=0))),(112,.bool u66)] fr/\kz B ro a0 a1 u34 u63 u1 u20 u35 u64 Q Y22 u66 I) ?_ ?_ ?_
 .intro h e6 hk6;iterate 4 refine zn e6 ?_
  refine zk e6 ?_;exact hk6 _ _ ⟨_,FL,h⟩
 .intro h e6 hk6;refine qX (alT rfl underlying70 ty3 rfl rfl (by decide) (by decide)) rfl rfl rfl rfl e6 ?_
  obtain⟨u67,hc,h⟩:=h
  refine Lyb rfl rfl rfl rfl e6 (vG rfl underlying3 rfl rfl hc ?_)
  refine zy e6 ?_;refine zy e6 ?_;refine zk e6 ?_;exact hk6 _ _ ⟨_,FL,h⟩
 rintro fr I ⟨u66,hl,h⟩;unfold kz at h;refine Lfr hl ?_
 refine zm (ats rfl underlying4 rfl rfl) ?_;refine z2 ?_;refine AW.iff rfl (qu aqg) h (fun h=>?_) (fun h=>?_)
 .refine z3 ?_;refine zp ?_;refine z2 ?_;refine AW.ret ?_;refine qi (qx (qi (qi (qx (qi ?_)))));exact bR1 results6 rfl ⟨_,rfl,h⟩
 refine AW.skip ?_;refine qd (z3 ?_);refine zf underlying30 adv ?_;refine zL underlying22 h fun u68 h=>?_;refine zp ?_;refine z2 ?_;refine zi h (fun h=>?_) fun h=>?_
 rotate_left
 .refine AW.skip ?_;refine qD (qd ?_);exact⟨_,FL,h⟩
 refine AW.reg ?_;iterate 3 refine zp ?_
 refine ju (qD (qd ?_));exact⟨_,FL,h⟩
end G
namespace Zt
open Go SL G Pa Wi
variable{B:World}{ro I I':AH}{tag tag':Nat->Nat}{L:List Nat}
variable{f:Int->Int}{W i m:Nat}{s:Sto}
theorem yz.outR(h:yz tag I W s)(hL:∀ x∈L,x%64∉DSt):yz tag (SL.zJ tag L I) W s:=by
 obtain⟨T,Tt,Th,ms,o,m,t,⟨M,bs,b⟩,⟨M2,bs2,hh⟩⟩:=h
 have no:∀ y,y%64∈DSt->y∉L:=fun y hy hm=>hL y hm hy
 have sub:∀ C:List Nat,(∀x∈C,x∈DSt)->∀ x∈L,x%64∉C:=fun C hC x hx hm=>hL x hx (hC _ hm)
 refine⟨T,Tt,Th,ms,o.outR (no 54 (by decide)),m.outR (no 118 (by decide)),t.outR (fun x hx=>⟨fun e=>hL x hx (by rw[e];decide),fun e=>hL x hx (by rw[e];decide)⟩),⟨M,bs,b.outR (sub _ (by decide))⟩,⟨M2,bs2,hh.outR (sub _ (by decide))⟩⟩
theorem yz.backR{tag1:Nat->Nat}{τ:AH}(h:yz tag1 τ W s)(hd:qP (SL.inR tag L I) τ):yz (tagB tag tag1 L I) (join (SL.inR tag L I) τ) W s:=by
 obtain⟨T,Tt,Th,ms,o,m,t,⟨M,bs,b⟩,⟨M2,bs2,hh⟩⟩:=h
 exact⟨T,Tt,Th,ms,o.backR hd,m.backR hd,t.backR hd,⟨M,bs,b.backR hd⟩,⟨M2,bs2,hh.backR hd⟩⟩
theorem ath{cs:Array Value}{K:Value->AH->Prop}(hs:SL.Sep ro I)(hK:∀ s tag' I',(∀R,qe R ro tag I tag' I')->aaH tag' I' 6 s cs.toList->K (Sl.v s) I'):
  nw ro I (.cells cs 5) fun x I=>awp prog ro (convert 24 24 (Sl.v ⟨some ⟨x,0,none⟩,cs.size,cs.size⟩)) K I:=by
 intro b hro hb
 unfold convert
 simp only[qy]
 rw[qw u30,qw u30]
 simp only[Sl.v]
 rw[qw asZ]
 show awp prog ro (Sem.bind (markStringish ⟨b,0,none⟩) fun _=>Sem.pure (Value.slice (some ⟨b,0,none⟩) cs.size cs.size)) K (upd I b _)
 unfold markStringish
 show∃o,rd ro (upd I b _) b=some o/\_
 refine⟨_,by unfold rd;rw[hro];exact qE _ _ _,?_⟩
 show(1:Nat)≠0/\∃ o,upd I b _ b=some o/\_
 refine⟨by decide,_,qE _ _ _,?_⟩
 rw[aiu]
 refine hK ⟨some ⟨b,0,none⟩,cs.size,cs.size⟩ (setTag tag b 6) _ (fun _=>qe.fresh hs hro hb) ⟨by simp,.inr ⟨_,_,rfl,by simp[setTag],qE _ _ _,fun i v hv=>?_⟩⟩
 rw[vn,Nat.zero_add]
 show cs[i]?=some v
 rw[<-hv];simp
theorem arz(q n:Nat){K:Nat->AH->Prop}(hs:SL.Sep ro I)(hK:∀ b tag' I',(∀R,qe R ro tag I tag' I')->Row tag' I' q 3 ⟨some ⟨b,0,none⟩,n,n⟩ (List.replicate n (vI 0))->K b I'):nw ro I (.cells (aaL (.int .i64 0) (n*1)) 3) K:=by
 intro b hro hb
 refine hK b (setTag tag b q) _ (fun _=>qe.fresh hs hro hb) (.inr ⟨b,_,rfl,by simp[setTag],qE _ _ _,by simp,by rw[ajR];simp,Nat.le_refl _,fun i hi=>?_⟩)
 simp at hi
 rw[ak6 _ rfl _ _ (by omega),List.getElem?_replicate,if_pos hi]
def aho(m:Nat)(f:Int->Int):List Value:=(List.range (m+1)).map fun i=>vI (f (i:Nat))
theorem amX(h:i<=m):(aho m f)[i]?=some (vI (f (i:Nat))):=by
 unfold aho
 rw[List.getElem?_map,List.getElem?_range (by omega)];try rfl
theorem arA{who:Nat}{x:Int}(h:who<=m):(aho m f).set who (vI x)=aho m (fun n=>if n=(who:Int)then x else f n):=by
 unfold aho
 apply List.ext_getElem?
 intro i
 rw[List.getElem?_set,List.getElem?_map,List.getElem?_map]
 by_cases e:who=i
 .subst e
  rw[if_pos rfl,if_pos (by simp;omega),List.getElem?_range (by omega)]
  simp
 .rw[if_neg e]
  rcases Nat.lt_or_ge i (m+1)with hi | hi
  .rw[List.getElem?_range hi]
   simp only[Option.map_some]
   rw[if_neg (by omega)]
  .rw[List.getElem?_eq_none (by simpa using hi)];try rfl
end Zt
namespace Zt
open Go SL G Pa Wi
variable{B:World}{ro I I':AH}{tag tag':Nat->Nat}
variable{Q:Bool->AH->Prop}{l:List (Int×Int)}{a1:Sl}{s:Sto}
theorem ap2{b c:Nat}(h:vE b s)(hc:b<=c):vE c s:=⟨h.tree.mono (by omega),h.tbl.mono hc,h.hub.mono hc,by have:=h.ep;omega,h.mem⟩
theorem auh:L (⟨#[47,97]⟩:ByteArray)=[47,97]:=rfl
theorem ap3(c:vY)(ho:c.ops=[])(hm:c.members=[]):aec tag I 24 28 nS nS c:=⟨⟨[],by rw[ho];try rfl,by rw[ho];exact qq.nil _ _ _,fun i o d h=>by rw[ho]at h;cases h⟩,by rw[hm];exact Row.nil _ _⟩
theorem aoP(m:Nat):agt (aci m):=⟨by simp[aci],by simp[aci],by simp[aci]⟩
theorem ap4(a b c:Int):agt (yb a b c):=⟨by simp[yb],by simp[yb],by simp[yb]⟩
theorem ap5{m b done W:Nat}{reqs:Int->Int}(g:wV ro)(h:yz tag I W s)(i:vE b s)(hb:b<=33554432)(w:Sw m reqs done s)(hm:0<m)(hs:SL.Sep ro I)(hQ:∀ I',Q true I'):jr B ro (some ⟨W,0,none⟩) Q (done:Int) I:=by
 unfold jr
 refine arw g h i hb fun U tag1 I1 st1 t1=>?_
 rw[if_neg (by simp)]
 obtain⟨M,bs,hT⟩:=t1
 have tI:=acC i.tree
 obtain⟨n,hn,hver,hown⟩:=w.node hm
 have hll:(srt s.tree).lookup (L (⟨#[47,97]⟩:ByteArray))=some n:=by rw[auh,aeN i.tree.inv.keys];exact hn
 refine agb (tag:=tag1) (r:=12) g (by decide) (by decide) (by decide) hT (fun p n hp=>tI.inv.data _ _ hp) (fun hp=>?_) (fun ps _ hp=>?_) fun n' hn' ds' tag2 I2 st2 _=>?_
 .obtain⟨ps,hps⟩:=tI.inv.path _ _ hll
  rw[hp]at hps;cases hps
 .rw[hll]at hp;cases hp
 rw[hll]at hn';cases hn'
 refine xh (tag:=tag2) 9 st2.sep rfl (by simp[qh]) fun Z tag3 I3 st3 r3=>?_
 rw[if_pos rfl]
 refine⟨n.ver,(r3.read (st3 []).sep).2.2 _ rfl 0 _ rfl,?_⟩
 unfold xS
 rw[if_pos (by simp[hver])]
 refine akm (tag:=tag3) g fun tag4 I4 _=>?_
 exact hQ I4
theorem ap6{m W R:Nat}(g:wV ro)(ha:SL.jE ro (fun _=>none) 2 a1 (l.map fun y=>[vI y.1,vI y.2]))(hl:l.length<=200)(hm:0<m)(hm20:m<=20)(hQ:∀ I',Q true I'):
  ∀k j done reqs s tag1 I1,j+k=l.length->SL.Sep ro I1->yz tag1 I1 W s->vE (m+j) s->Sw m reqs done s->done<=j->(∀n,0<=reqs n/\reqs n<=j)->Row tag1 I1 23 3 ⟨some ⟨R,0,none⟩,m+1,m+1⟩ (aho m reqs)->
   lfpD (kC B ro (m:Int) a1 (some ⟨W,0,none⟩) R Q) ((done:Int),(j:Int)) I1:=by
 have hln:a1.len=l.length:=by rw[ha.1,List.length_map]
 have hw:i64.wrap ((m:Int)+1)=((m+1:Nat):Int):=Pa.inc m (by omega)
 intro k
 induction k with
 | zero=>
  intro j done reqs s tag1 I1 hj hs1 h1 i1 w1 hd hreq r1
  refine lfpD.intro ?_
  unfold kC
  simp only
  rw[if_neg (by omega)]
  exact ap5 g h1 i1 (by omega) w1 hm hs1 hQ
 | succ k ih=>
  intro j done reqs s tag1 I1 hj hs1 h1 i1 w1 hd hreq r1
  have hjl:j<l.length:=by omega
  obtain⟨q,hq,hc⟩:=(ha.keep (I:=I1)).at (j:=j) (x:=[vI l[j].1,vI l[j].2]) (by rw[List.getElem?_map,List.getElem?_eq_getElem hjl];try rfl)
  obtain⟨⟨who,v⟩,hy⟩:∃ y,l[j]=y:=⟨_,rfl⟩
  rw[hy]at hc
  refine lfpD.intro ?_
  generalize hY:lfpD (kC B ro (m:Int) a1 (some ⟨W,0,none⟩) R Q)=Y0 at ih⊢
  unfold kC
  simp only
  rw[if_pos (by omega)]
  refine⟨q,hq,by omega,by omega,who,v,by rw[Int.toNat_natCast];exact hc,?_⟩
  refine xh (tag:=tag1) 22 hs1 rfl (by simp[qh]) fun A tag2 I2 st2 x2=>?_
  have hs2:=(st2 []).sep
  refine⟨who,(x2.read hs2).2.2 _ rfl 0 _ rfl,?_⟩
  have r2:=r1.keep (st2 [])
  have h2:=h1.keepS (qv (C:=[]) st2) (by simp)
  by_cases hr:who<1\/(m:Int)<who
  .rw[if_pos hr]
   unfold zW
   rw[Pa.inc j (by omega)]
   exact ih (j+1) done reqs s tag2 I2 (by omega) hs2 h2 (ap2 i1 (by omega)) w1 (by omega) (fun n=>⟨(hreq n).1,by have:=(hreq n).2;omega⟩) r2
  rw[if_neg hr,hw]
  obtain⟨wn,rfl⟩:∃ wn:Nat,who=(wn:Int):=⟨who.toNat,by omega⟩
  have hwn:1<=wn/\wn<=m:=by omega
  simp only[Int.toNat_natCast]
  have hrq:=hreq (wn:Int)
  refine⟨_,rfl,by omega,by omega,reqs wn,by rw[Nat.mul_one];exact(r2.read hs2).2.2 _ rfl wn _ (amX hwn.2),_,rfl,by omega,by omega,?_⟩
  have hreq1:i64.wrap (reqs wn+1)=reqs wn+1:=SL.wb (by omega) (by omega)
  rw[hreq1]
  refine r2.st (i:=wn) hs2 rfl (by unfold aho;simp;omega) rfl fun I3 st3 r3=>?_
  rw[arA hwn.2]at r3
  have h3:=h2.keepS (st3.s (C:=[23]) (by simp))
  have x3:=x2.keep st3
  have hs3:=st3.sep
  generalize hf:(fun n=>if n=(wn:Int)then reqs wn+1 else reqs n)=reqs' at r3
  have hf':reqs' wn=reqs wn+1:=by rw[<-hf];simp
  refine jF tag2 [22,23] ?_
  have hsA:SL.Sep (join ro (SL.inR tag2 [22,23] I3)) (SL.zJ tag2 [22,23] I3):=hs3.lentR
  have hA:=h3.outR (L:=[22,23]) (by decide)
  have r3':=r3
  refine⟨_,rfl,by omega,by omega,reqs wn+1,?_,v,?_,?_⟩
  .rw[Nat.mul_one,<-hf'];exact r3.lendR hs3 (by simp) rfl (amX hwn.2)
  .exact x3.lendR hs3 (by simp) rfl (i:=1) rfl
  refine ath (tag:=tag2) hsA fun d tag4 I4 st4 d4=>?_
  refine⟨d,rfl,?_⟩
  refine ao1 (tag:=tag4) 24 (l:=[opV ⟨3,[47,97],[120],v,false,false⟩ d]) (st4 []).sep (fun x hx=>by rw[List.mem_singleton.1 hx]) fun O tag5 I5 st5 o5=>?_
  have c5:aec tag5 I5 24 28 ⟨some ⟨O,0,none⟩,1,1⟩ nS (yb wn (reqs wn+1) v):=⟨⟨[d],rfl,o5,fun i o d' ho hd=>by
   match i with
   | 0=>cases ho;cases hd;exact d4.keep (st5 [])
   | i+1=>cases ho⟩,Row.nil _ _⟩
  have k5:∀ R,qe R _ tag2 _ tag5 I5:=fun R=>(st4 R).trans (st5 R)
  refine alz (b:=m+j) (c:=yb wn (reqs wn+1) v) (acR g) (hA.keepS (qv (C:=[]) k5) (by simp)) i1 (by omega) c5 (ap4 _ _ _) (by simp[yb]) fun rs ds ns es tag6 I6 st6 h6 _=>?_
  refine qj (tag:=tag6) 29 st6.sep fun Y tag7 I7 st7 y7=>?_
  intro hdj
  have kA:=((qv (C:=[]) k5).mono (fun _ h=>by cases h)).trans (st6.trans ((qv (C:=[]) st7).mono (fun _ h=>by cases h)))
  have kB:=kA.backR hs3 hdj
  have h8:=(h6.keepS (qv (C:=[]) st7) (by simp)).backR hdj
  have y8:=y7.backR hdj
  have x8:=x3.againR (L:=[22,23]) (tag1:=tag7) (τ:=I7) (by simp)
  have r8:=r3.againR (L:=[22,23]) (tag1:=tag7) (τ:=I7) (by simp)
  have t:=atg (who:=wn) (req:=reqs wn+1) (v:=v) i1 (by omega) w1 (by omega) (by omega) hm20 (by omega) (by omega) (by omega) (by omega)
  have i8:=akc (c:=yb wn (reqs wn+1) v) i1 (by omega)
  generalize (join (SL.inR tag2 [22,23] I3) I7)=I8 at kB h8 y8 x8 r8⊢
  generalize (tagB tag2 tag7 [22,23] I3)=tag8 at kB h8 y8 x8 r8
  refine ad7 y8 kB.sep (by simp) (aeR (vH s (yb wn (reqs wn+1) v)).2 rs ds ns es) fun I9 st9 y9 _=>?_
  have x9:=x8.keep st9
  have r9:=r8.keep st9
  have h9:=h8.keepS (st9.s (C:=[29]) (by simp))
  refine⟨_,(y9.read st9.sep).2.2 _ rfl 0 _ rfl,v,(x9.read st9.sep).2.2 _ rfl 1 _ rfl,?_⟩
  have fin:∀ bb:Bool,(bb=true↔v= -1\/v=done)->kz B ro (m:Int) a1 (done:Int) Y (some ⟨W,0,none⟩) R (j:Int) (vH s (yb wn (reqs wn+1) v)).2.code Q Y0 bb I9:=fun bb hb=>by
   unfold kz
   have e:decide ((vH s (yb wn (reqs wn+1) v)).2.code=0)=bb:=by
    cases bb with
    | true=>simpa using t.1.2 (hb.1 rfl)
    | false=>simp;exact fun h=>by have:=hb.2 (t.1.1 h);cases this
   rw[e,if_neg (by simp)]
   refine⟨_,(y9.read st9.sep).2.2 _ rfl 0 _ rfl,?_⟩
   have rq:∀ n,0<=reqs' n/\reqs' n<=((j+1:Nat):Int):=fun n=>by
    have:=hreq n
    rw[<-hf]
    simp only
    split<;>omega
   by_cases hz:(vH s (yb wn (reqs wn+1) v)).2.code=0
   .rw[if_pos hz]
    unfold zW
    rw[Pa.inc done (by omega),Pa.inc j (by omega)]
    have w9:=t.2.1 (t.1.1 hz)
    rw[hf]at w9
    exact ih (j+1) (done+1) reqs' _ tag8 I9 (by omega) st9.sep h9 i8 w9 (by omega) rq r9
   .rw[if_neg hz]
    unfold zW
    rw[Pa.inc j (by omega)]
    have w9:=t.2.2 (fun h=>hz (t.1.2 h))
    rw[hf]at w9
    exact ih (j+1) done reqs' _ tag8 I9 (by omega) st9.sep h9 i8 w9 (by omega) rq r9
  by_cases e1:v= -1
  .rw[if_pos e1]
   exact fin true (by simp[e1])
  .rw[if_neg e1]
   refine⟨v,(x9.read st9.sep).2.2 _ rfl 1 _ rfl,?_⟩
   exact fin (decide (v=(done:Int))) (by simp[e1])
theorem ap7(m:Nat):List.replicate (m+1) (vI 0)=aho m (fun _=>0):=by
 unfold aho
 apply List.ext_getElem?
 intro i
 rw[List.getElem?_replicate,List.getElem?_map]
 by_cases h:i<m+1
 .rw[if_pos h,List.getElem?_range h];try rfl
 .rw[if_neg h,List.getElem?_eq_none (by simp;omega)];rfl
theorem aoQ{a0:Int}(g:wV ro)(ha:SL.jE ro (fun _=>none) 2 a1 (l.map fun y=>[vI y.1,vI y.2]))(hQ:∀ I',Q true I'):ad0 B ro a0 a1 I Q:=by
 refine ahG fun hs=>?_
 unfold abo
 refine qj (tag:=T7) 9 hs fun X0 tag0 I0 st0 r0=>?_
 refine ap1 (tag:=tag0) (l:=[0]) (r0.read (st0 []).sep) (by decide) (by decide) fun W tagA IA stA hA=>?_
 have hln:a1.len=l.length:=by rw[ha.1,List.length_map]
 by_cases c:(a0<1\/20<a0)\/200<(a1.len:Int)
 .rw[if_pos (by rcases c with(c | c) | c<;>simp[c]),if_pos (by simp)]
  refine akm (tag:=tagA) g fun tag1 I1 _=>?_
  unfold jq
  exact hQ I1
 rw[if_neg (by
  simp only[not_or]at c
  rintro((((h | h) | h) | h) | h)
  .cases h
  .exact h rfl
  .exact c.1.1 h
  .exact c.1.2 h
  .exact c.2 h)]
 obtain⟨M,rfl⟩:∃ M:Nat,a0=(M:Int):=⟨a0.toNat,by omega⟩
 have hM:1<=M/\M<=20/\l.length<=200:=by omega
 suffices∀k m s tag1 I1,m+k=M->SL.Sep ro I1->yz tag1 I1 W s->vE m s->yh m s->Sw m (fun _=>0) 0 s->lfpD (kF B ro (M:Int) a1 (some ⟨W,0,none⟩) Q) (m:Int) I1 from
  this _ 0 _ tagA IA (Nat.zero_add _) stA.sep hA arx aoO ate
 intro k
 induction k with
 | zero=>
  intro m s tag1 I1 hm hs1 h1 i1 m1 w1
  have hmM:m=M:=by omega
  subst hmM
  refine lfpD.intro ?_
  unfold kF
  rw[if_neg (by omega)]
  unfold pA
  rw[Pa.inc m (by omega)]
  refine⟨⟨by omega,by omega,by omega,by omega⟩,?_⟩
  rw[Int.toNat_natCast]
  refine arz (tag:=tag1) 23 (m+1) hs1 fun R tag2 I2 st2 r2=>?_
  rw[ap7]at r2
  have h2:=h1.keepS (qv (C:=[]) st2) (by simp)
  exact ap6 g ha hM.2.2 (by omega) hM.2.1 hQ l.length 0 0 (fun _=>0) s tag2 I2 (Nat.zero_add _) (st2 []).sep h2 i1 w1 (Nat.le_refl _) (fun n=>⟨Int.le_refl _,Int.le_refl _⟩) r2
 | succ k ih=>
  intro m s tag1 I1 hm hs1 h1 i1 m1 w1
  refine lfpD.intro ?_
  generalize hY:lfpD (kF B ro (M:Int) a1 (some ⟨W,0,none⟩) Q)=Y0 at ih⊢
  unfold kF
  rw[if_pos (by omega),Pa.inc m (by omega)]
  refine alz (b:=m) (c:=aci m) (tag:=tag1) g h1 i1 (by omega) (ap3 _ rfl rfl) (aoP m) (by simp[aci]) fun rs ds ns es tag2 I2 st2 h2 _=>?_
  have t:=asE (reqs:=fun _=>0) i1 (by omega) m1 w1 (by omega) rfl
  refine xh (tag:=tag2) 29 st2.sep rfl (aeR (vH s (aci m)).2 rs ds ns es) fun Y tag3 I3 st3 y3=>?_
  refine⟨_,(y3.read (st3 []).sep).2.2 _ rfl 1 _ rfl,?_⟩
  rw[if_neg (by rw[t.2];simp)]
  exact ih (m+1) _ tag3 I3 (by omega) (st3 []).sep (h2.keepS (qv (C:=[]) st3) (by simp)) (akc i1 (by omega)) (anm i1 (by omega) m1) t.1
end Zt
namespace SL
open Go
variable{n:Nat}{P:Program}{W:World}{H:Type}{enc:TypeId×Value->H}
theorem Arg.rowsW{α:Type}[Inhabited α]{t e:TypeId}{w:Nat}{s:Sl}{V:α->List Value}{G:α->Prop}(ht:P.underlying t=some (.slice e))(hw:P.cellsOf e=w)(hV:∀ y,(V y).length=w)(hd:∀ cs,Arg P W H enc e cs->cs.length=w->∃ y,cs=V y/\G y)(h:Arg P W H enc t [Sl.v s]):
  ∃l:List α,jE (all W) (fun _=>none) w s (l.map V)/\(∀y∈l,G y)/\s.len<=s.cap:=by
 obtain⟨a,len,cap⟩:=s
 rcases Arg.slice ht h with⟨rfl,rfl,rfl⟩ | ⟨x,rfl,hl,hb,hel⟩
 .exact⟨[],⟨rfl,fun _=>rfl,(fun _ h=>by cases h),fun p h=>by cases h⟩,(fun _ h=>by cases h),Nat.le_refl _⟩
 .rw[hw]at hel
  have key:∀ j:Nat,∃y:α,j<len->(∀i,i<w->W.cell? ((x.add (j*w)).add i)=(V y)[i]?)/\G y:=fun j=>by
   by_cases hj:j<len
   .obtain⟨cs,h1,h2,h3⟩:=hel j hj
    obtain⟨y,rfl,hy⟩:=hd cs h3 h1
    exact⟨y,fun _=>⟨h2,hy⟩⟩
   .exact⟨default,fun h=>absurd h hj⟩
  obtain⟨f,hf⟩:=Classical.axiomOfChoice key
  have hlen:((List.range len).map f).length=len:=by simp
  refine⟨(List.range len).map f,⟨by simp,(fun h=>by cases h),?_,fun p hp i v hv=>?_⟩,fun y hy=>?_,hl⟩
  .intro z hz
   obtain⟨y,_,rfl⟩:=List.mem_map.1 hz
   exact hV y
  .cases hp
   have hwid:∀ z∈((List.range len).map f).map V,z.length=w:=fun z hz=>by
    obtain⟨y,_,rfl⟩:=List.mem_map.1 hz
    exact hV y
   have hfl:=yW hwid
   rw[List.length_map,hlen]at hfl
   have hi:i<len*w:=by
    rcases Nat.lt_or_ge i (len*w)with h | h
    .exact h
    .rw[List.getElem?_eq_none (by omega)]at hv;cases hv
   have hw0:0<w:=by
    rcases Nat.eq_zero_or_pos w with h | h
    .rw[h]at hi;simp at hi
    .exact h
   have hdm:=Nat.div_add_mod i w
   have hj:i / w<len:=Nat.div_lt_of_lt_mul (by rw[Nat.mul_comm];exact hi)
   have hm:=Nat.mod_lt i hw0
   have he:(((List.range len).map f).map V)[i / w]?=some (V (f (i / w))):=by
    rw[List.getElem?_map,List.getElem?_map,List.getElem?_range hj];try rfl
   have hg:=aji hwid he hm
   rw[Nat.mul_comm]at hdm
   rw[hdm,hv]at hg
   have:=(hf _ hj).1 _ hm
   rw[adD,hdm,<-hg]at this
   exact aqh _ this
  .obtain⟨j,hj,rfl⟩:=List.mem_map.1 hy
   exact(hf j (List.mem_range.1 hj)).2
end SL
namespace Zt
open Go SL G Pa Wi
theorem uPs:prog.underlying 69=some (.slice 70):=by kernel_rfl
theorem uP2:prog.underlying 70=some (.array 2 3):=by kernel_rfl
theorem kP2:prog.cellsOf 70=2:=by kernel_rfl
theorem kP3:prog.cellsOf 3=1:=by kernel_rfl
theorem aui:prog.underlying 4=some .bool:=by kernel_rfl
variable{W:World}{H:Type}{enc:TypeId×Value->H}
theorem ati{s:Sl}(h:SL.Arg prog W H enc 69 [Sl.v s]):∃ l:List (Int×Int),SL.jE (all W) (fun _=>none) 2 s (l.map fun y=>[vI y.1,vI y.2]):=by
 obtain⟨l,h2,_⟩:=SL.Arg.rowsW (α:=Int×Int) (V:=fun y=>[vI y.1,vI y.2]) (G:=fun _=>True) uPs kP2 (fun _=>rfl) (fun cs hc hl=>by
  match cs,hl with
  | [u,v],_=>
   obtain⟨fuel,d,ps,hf,_⟩:=hc
   obtain⟨_,m,hm⟩:=SL.an7 uP2 hf
   obtain⟨z0,h0⟩:=hm 0 (by decide)
   obtain⟨z1,h1⟩:=hm 1 (by decide)
   rw[kP3]at h0 h1
   obtain⟨x,rfl,_⟩:=SL.al9 u3' h0
   obtain⟨y,rfl,_⟩:=SL.al9 u3' h1
   exact⟨(x,y),rfl,trivial⟩) h
 exact⟨l,h2⟩
end Zt
namespace Zt
open Go SL Go.ChangeShapes Go.WideShapes Go.ChangeAt Go.RowKit
theorem auj{H:Type}{enc:TypeId×Value->H}{a:Assume}{C:Checked}{os:Os}{f:FuncId}{fn:Func}{s:ChangeSpec}{conds:List PathCond}{apart fresh handsOn again:Bool}{X:World->Array Value->Prop}
  (hX:∀ (w w':World) (args:Array Value),w.heap=w'.heap->X w args->X w' args)
  (own:ownKnob C.prog.godebug=none) (started:os.Started) (noInit:C.prog.inits.idxOf? f=none) (hfn:C.prog.funcs[f]?=some fn)
  (witness:∃ (w:World) (tape:Tape) (i:Input),w.os=os/\(w.forCall tape i).Shaped C.prog/\i.vars=[]/\Input.okWide C.prog (w.forCall tape i) .any w.heap.size f i/\
   ((s.pre enc C.prog fn conds apart (w.forCall tape i).memory i.args/\X (w.forCall tape i).memory i.args)/\sizedMet enc C.prog fn (OpenSpec.ofChange s) apart (w.forCall tape i).memory i.args)/\a.holds C.prog (lone (Frame.enter C.prog f i.args .normal) [] (w.forCall tape i)))
  (contract:∀ (W:World) (base:Nat) (args:Array Value) (ds gs:List (DataW H)) (before:List MemPlace),
   (∀(j:Nat) t v,fn.params[j]?=some t->args[j]?=some v->Value.okWide C.prog W .any base t v)->
   DataW.Whole enc C.prog fn.params.toList s.vars apart W args.toList ds gs before->
   conds.all (PathCond.test C.prog ⟨fn.params.toList,ds,s.plain.varTypes C.prog,gs⟩)=true->
   (DataW.weightsEach C.prog (fn.params.toList++s.plain.varTypes C.prog) (ds++gs)).all (· <=reachBytes)=true->X W args->W.ShapedOpen C.prog->
   a.holds C.prog (lone (Frame.enter C.prog f args .normal) [] W)->
   Calls C.prog f args W fun e W'=> ∃v,e= .returned v/\s.post enc C.prog fn apart fresh handsOn again W args v W'):
  ReturnsInHanded a C os f .any (fun w args=>(s.pre enc C.prog fn conds apart w args/\X w args)/\sizedMet enc C.prog fn (OpenSpec.ofChange s) apart w args) (s.post enc C.prog fn apart fresh handsOn again):=by
 refine returnsInHanded_of_calls own started noInit witness ?_
 intro w tape i _ hsh _ hok hpre hholds
 obtain⟨_,_,_,fn',hfn',_,_,_,_,hval⟩:=hok
 have e:fn'=fn:=Option.some.inj (hfn'.symm.trans hfn)
 subst e
 obtain⟨⟨⟨ds,gs,before,hw,hc⟩,hx⟩,hz⟩:=hpre
 have hw':=DataW.Whole.of_heap (w':=w.forCall tape i) (by rfl) hw
 refine(contract (w.forCall tape i) w.heap.size i.args ds gs before hval hw' hc (hz.weights hw) (hX _ _ _ (by rfl) hx) hsh hholds).mono fun e W' ⟨v,he,hp⟩=>?_
 subst he
 exact ChangeSpec.post_blind hp
end Zt
namespace Zt
open Go Go.ChangeShapes Go.WideShapes Go.ChangeAt Go.RowKit
theorem aoR:(Rows.storeSwapsRow.inPlace == prog.inPlace 6)=true:=by kernel_rfl
theorem atj:(Rows.storeSwapsRow.unfollowed == prog.unfollowed 6)=true:=by kernel_rfl
theorem atk:(Rows.storeSwapsRow.recurses == prog.recurses 6)=true:=by kernel_rfl
theorem arB:(Rows.storeSwapsRow.named == prog.varsNamed 6)=true:=by kernel_rfl
theorem asF:laidOutB prog=true:=akx
theorem ap8:joinedFacts prog 6 f6 Rows.storeSwapsSpec Rows.storeSwapsRow=true:=by
 unfold joinedFacts
 rw[aoR,atj,atk,arB,asF]
 simp only[Bool.and_eq_true]
 repeat' refine And.intro ?_ ?_
 all_goals first | exact trivial | (as_aux_lemma=>kernel_rfl)