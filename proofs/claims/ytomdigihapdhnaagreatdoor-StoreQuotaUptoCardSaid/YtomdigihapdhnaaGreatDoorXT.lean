import Derived.JoinedCond
import Derived.Test.YtomdigihapdhnaaGreatDoorRows
import Derived.Test.YtomdigihapdhnaaGreatDoorXS
set_option linter.all false
set_option maxRecDepth 99999
set_option maxHeartbeats 0
open Go.IntKind(i64)
open Go.Proofs.Tryz
namespace Go.Proofs.YtomdigihapdhnaaGreatDoor
namespace Zt
open Go SL Pa Wi
theorem aiB{P:St->Prop}{home:Str}{ws:List Int}{st:St}(hP:∀ a p,p∈adh st ws->(qF p).getD []=home->P a->P (wL a p (-1)).1)(h:P st):P (yW st home ws).1:=by
 have key:∀ (ks:List Str) (a:St×List Str),(∀k∈ks,k∈adh st ws)->P a.1->P (ks.foldl (ya home) a).1:=by
  intro ks
  induction ks with
  | nil=>intro a _ h;exact h
  | cons k ks ih=>
   intro a hk h
   rw[List.foldl_cons]
   refine ih _ (fun x hx=>hk x (by simp[hx])) ?_
   unfold ya
   split
   .rename_i c
    exact hP _ _ (hk k (by simp)) c.1 h
   .exact h
 exact key _ _ (fun k hk=>hk) h
theorem aqc{st:St}{ws:List Int}{k:Str}(hm:k∈adh st ws):∃ n,st.lookup k=some n/\n.own≠0/\n.own∈ws:=by
 unfold adh at hm
 rw[List.mem_reverse,List.mem_filter]at hm
 have:=hm.2
 unfold aav at this
 cases e:st.lookup k with
 | none=>rw[e]at this;simp at this
 | some n=>rw[e]at this;simp at this;exact⟨n,rfl,this.1,this.2⟩
theorem abl{home:Str}(hn:wo home=true):parts (47::home)=some [home]/\qz (47::home)=some [47]/\qF (47::home)=some home:=by
 have hl:=aa3 hn
 have h1:parts (47::home)=some [home]:=wa.2 ⟨by simp[mk],⟨by simp,fun y hy=>by rw[List.mem_singleton.1 hy];exact hn,by simp[mk];omega⟩⟩
 refine⟨h1,?_,?_⟩
 .unfold qz;rw[h1];rfl
 .rw[yV h1];rfl
theorem aqd{k x:Str}(h:parts k=some [x]):k=47::x/\wo x=true/\qF k=some x/\qz k=some [47]:=by
 obtain⟨h1,h2⟩:=wa.1 h
 have hx:=h2.ok x (by simp)
 have hk:k=47::x:=by rw[h1];simp[mk]
 rw[hk]
 exact⟨rfl,hx,(abl hx).2.2,(abl hx).2.1⟩
theorem af8:qF [47]=none:=rfl
theorem ajl{b:Nat}{st:St}{home:Str}{n:Nd}(hi:wD b st)(hn:wo home=true)(hr:st.lookup [47]=some n)(hc:n.ctr<=9999999999)(hl:st.lookup (47::home)=none):
  wu st (47::home) [] 0 false=(wH (st++[(47::home,⟨0,0,0,0,[]⟩)]) [47] jx,47::home,0):=by
 unfold wu
 rw[(abl hn).2.1]
 simp only
 rw[if_neg (by simp),if_neg (by omega),hr]
 simp only
 rw[if_neg (by simp[(hi.rt n hr).2.2]),if_neg (by omega)]
 simp only[Bool.false_eq_true,if_false]
 rw[hl]
 rfl
theorem asJ{st:St}(hi:Inv st){home:Str}(hl:st.lookup (47::home)=none):∀ k n,st.lookup k=some n->qF k≠some home:=by
 have key:∀ (m:Nat) (k:Str) (n:Nd) (ps:List Str),st.lookup k=some n->parts k=some ps->ps.length=m+1->ps.head?=some home->False:=by
  intro m
  induction m with
  | zero=>
   intro k n ps hk hp hlen hh
   match ps,hlen with
   | [x],_=>
    simp at hh
    subst hh
    rw[(aqd hp).1,hl]at hk;cases hk
  | succ m ih=>
   intro k n ps hk hp hlen hh
   have hne:k≠[47]:=fun e=>by
    rw[e]at hp
    have:parts [47]=some []:=rfl
    rw[this]at hp;cases hp;simp at hlen
   obtain⟨u,m',hu,hl',_⟩:=hi.up k n hk hne
   obtain⟨qs,h1,h2,h3⟩:=ajJ hu
   rw[hp]at h1;cases h1
   refine ih u m' _ hl' h3 (by rw[List.length_dropLast];omega) ?_
   match ps,hlen with
   | x::y::r,_=>simpa using hh
 intro k n hk hh
 obtain⟨ps,hps⟩:=hi.path k n hk
 rw[yV hps]at hh
 match ps,hh with
 | x::r,hh=>exact key r.length k n _ hk hps (by simp) hh
def Qt(st:St):Prop:= ∀home,bnd st home 64 8192
theorem aks{st:St}(hk:(st.map (·.1)).Nodup){h:Str}(hn:∀ k n,st.lookup k=some n->qF k≠some h):zh st h=(0,0):=by
 have L:Loc h st []:=fun k hk=>by
  cases e:st.lookup k with
  | none=>rfl
  | some n=>exact absurd hk (hn k n e)
 exact alC hk (by simp) L
theorem ati:Qt St.new:=fun home=>by
 have:zh St.new home=(0,0):=by
  refine aks (by simp[St.new]) fun k n h=>?_
  unfold St.new at h
  rw[List.lookup_cons]at h
  by_cases c:k=[47]
  .rw[c,af8];simp
  .rw[show(k == [47])=false by simpa using c]at h;cases h
 unfold bnd;rw[this];exact⟨by decide,by decide⟩
theorem arz{st:St}{home:Str}{ws:List Int}(h:Qt st):Qt (yW st home ws).1:=aiB (P:=Qt) (fun a p _ _ ha home'=>akc (ha home')) h
theorem arA{b:Nat}{st:St}{home:Str}{owner:Int}{ops:List MOp}(hi:wD b st)(hb:b<=4398046511000)(h:Qt st):Qt (wm st home owner 64 8192 ops).st:=fun h'=>by
 by_cases c:h'=home
 .subst c;exact apN (h _)
 .have L:Loc h' (wm st home owner 64 8192 ops).st st:=fun k hk=>ako hi hb k (by rw[hk];intro e;exact c (Option.some.inj e))
  have:=h h'
  unfold bnd at this⊢
  rw[alC (aka hi hb).inv.keys hi.inv.keys L];exact this
theorem asK{b:Nat}{st:St}{home:Str}{n:Nd}(hi:wD b st)(hn:wo home=true)(hr:st.lookup [47]=some n)(hc:n.ctr<=9999999999)(hl:st.lookup (47::home)=none)(h:Qt st):Qt (wu st (47::home) [] 0 false).1:=fun h'=>by
 rw[ajl hi hn hr hc hl]
 unfold bnd
 rw[ahd (f:=jx) (fun n=>rfl),aeL (List.perm_append_singleton (47::home,(⟨0,0,0,0,[]⟩:Nd)) st),abu]
 have hl':=aa3 hn
 by_cases c:h'=home
 .subst c
  rw[aks hi.inv.keys (asJ hi.inv hl)]
  unfold uw
  rw[if_pos (abl hn).2.2,if_pos (abl hn).2.2]
  simp only[List.length_cons,List.length_nil]
  exact⟨by omega,by omega⟩
 .have hne:qF (47::home)≠some h':=by rw[(abl hn).2.2];intro e;exact c (Option.some.inj e).symm
  unfold uw
  rw[if_neg hne,if_neg hne]
  have:=h h'
  unfold bnd at this
  simp only
  exact⟨by omega,by omega⟩
def Top(a a':St):Prop:= ∀k x,parts k=some [x]->(a'.lookup k).map (·.own)=(a.lookup k).map (·.own)
theorem Top.refl(a:St):Top a a:=fun _ _ _=>rfl
theorem Top.trans{a b c:St}(h:Top a b)(k:Top b c):Top a c:=fun x y e=>(k x y e).trans (h x y e)
theorem ak4{st:St}{u:Str}{f:Nd->Nd}(hf:∀ n,(f n).own=n.own)(k:Str):((wH st u f).lookup k).map (·.own)=(st.lookup k).map (·.own):=by
 rw[vj]
 split
 .cases st.lookup k with
  | none=>rfl
  | some n=>simp[hf]
 .rfl
theorem ao1{h p d:Str}{a:St}{o:Int}{seq:Bool}(hu:∀ u,qz p=some u->qF u=some h):Top a (wu a p d o seq).1:=by
 have R:=Top.refl a
 unfold wu
 cases hp:qz p with
 | none=>exact R
 | some u=>
  have hhu:=hu u hp
  simp only
  split
  .exact R
  .split
   .exact R
   .cases hn:a.lookup u with
    | none=>exact R
    | some n=>
     simp only
     split
     .exact R
     .split
      .exact R
      .cases hq:(if seq then yT p n.ctr else some p)with
       | none=>exact R
       | some q=>
        simp only
        have hpq:qz q=some u:=by
         cases seq with
         | true=>simp at hq;obtain⟨_,_,e⟩:=acb hq;rw[e,hp]
         | false=>simp at hq;rw[<-hq,hp]
        split
        .exact R
        .intro k x hk
         rw[ak4 (f:=jx) (fun n=>rfl),ade]
         have hkq:k≠q:=fun e=>by
          have h1:=(aqd hk).2.2.2
          rw[e,hpq]at h1
          rw[Option.some.inj h1,af8]at hhu;cases hhu
         cases a.lookup k with
         | some m=>rfl
         | none=>simp only;rw[if_neg hkq]
theorem akt{p:Str}{a:St}{v:Int}(hk:(a.map (·.1)).Nodup)(hp:∀ x,parts p≠some [x]):Top a (wL a p v).1:=by
 rcases abW a p v with⟨e,_,he⟩ | ⟨n,u,he,_⟩
 .rw[he];exact Top.refl a
 .rw[he]
  intro k x hkx
  simp only
  rw[abr (by rw[ud];exact hk),if_neg (fun e=>hp x (by rw[<-e];exact hkx)),ak4 (f:=yv) (fun n=>rfl)]
theorem arB{p d:Str}{a:St}{v:Int}:Top a (xf a p d v).1:=by
 rcases aid a p d v with⟨e,_,he⟩ | ⟨n,he,_⟩
 .rw[he];exact Top.refl a
 .rw[he]
  intro k x hkx
  simp only
  rw[ak4 (f:=adQ d) (fun n=>rfl)]
theorem ans{home:Str}{o:MOp}(h:zG home o=0)(hk:o.kind<=2):∀ x,parts o.path≠some [x]:=by
 intro x e
 unfold zG at h
 split at h
 .cases h
 .rw[e]at h
  simp only at h
  rw[if_pos (.inr ⟨rfl,hk⟩)]at h;cases h
theorem arC{home:Str}{owner:Int}{a:St}{o:MOp}(hw:zG home o=0)(hka:(a.map (·.1)).Nodup):Top a (xI owner a o).1:=by
 obtain⟨h1,h2⟩:=ajk hw
 unfold xI
 split
 .exact ao1 (h2 (by omega))
 .split
  .exact akt hka (ans hw (by omega))
  .split
   .exact arB
   .exact Top.refl a
theorem asL{home:Str}{owner qn qb:Int}{w:uC}{o:MOp}(hk:(w.st.map (·.1)).Nodup):Top w.st (doE home owner qn qb w o).2.st:=by
 by_cases hc:zG home o=0
 .have:=arC (owner:=owner) hc hk
  unfold doE
  rw[if_neg (by simpa using hc)]
  split
  .exact this
  .split
   .exact this
   .exact this
 .unfold doE
  rw[if_pos hc]
  exact Top.refl _
theorem ao2{home:Str}{owner qn qb:Int}:∀ {os:List MOp} {i b:Nat} {w v:uC},wD b w.st->b+os.length<=4398046511103->vJ home owner qn qb os i w= .inr v->Top w.st v.st:=by
 intro os
 induction os with
 | nil=>intro i b w v _ _ h;cases h;exact Top.refl _
 | cons o os ih=>
  intro i b w v h1 hb h
  simp only[List.length_cons]at hb
  unfold vJ at h
  split at h
  .cases h
  .exact(asL (home:=home) (owner:=owner) (qn:=qn) (qb:=qb) (o:=o) h1.inv.keys).trans (ih (agm h1 (by omega)) (by omega) h)
theorem ao3{home:Str}{owner qn qb:Int}{ops:List MOp}{a:St}{b:Nat}(ha:wD b a)(hb:b<=4398046511000):Top a (wm a home owner qn qb ops).st:=by
 unfold wm
 split
 .exact Top.refl a
 .split
  .exact Top.refl a
  .cases e:vJ home owner qn qb ops 0 ⟨srt a,[],[]⟩with
   | inl x=>exact Top.refl a
   | inr w=>
    have:=ao2 (adC ha) (by omega) e
    intro k x hk
    rw[<-ahw ha.inv.keys k]
    exact this k x hk
structure yA(b:Nat)(s:Sto):Prop where
 qt:Qt s.tree
 at1:∀ p∈s.tbl.map (·.1),∃n,s.tree.lookup (47::p)=some n
 own1:∀ k n x,s.tree.lookup k=some n->parts k=some [x]->n.own=0
 rt:∀ n,s.tree.lookup [47]=some n->n.ctr<=b
theorem Top.at1{a a':St}{t:Tbl}(h:Top a a')(ht:∀ p∈t.map (·.1),wo p=true)(k:∀ p∈t.map (·.1),∃n,a.lookup (47::p)=some n):∀ p∈t.map (·.1),∃n,a'.lookup (47::p)=some n:=fun p hp=>by
 obtain⟨n,hn⟩:=k p hp
 have:=h (47::p) p (abl (ht p hp)).1
 rw[hn]at this
 cases e:a'.lookup (47::p)with
 | some m=>exact⟨m,rfl⟩
 | none=>rw[e]at this;cases this
theorem Top.own1{a a':St}(h:Top a a')(k:∀ k n x,a.lookup k=some n->parts k=some [x]->n.own=0):∀ k n x,a'.lookup k=some n->parts k=some [x]->n.own=0:=fun q n x hn hp=>by
 have:=h q x hp
 rw[hn]at this
 cases e:a.lookup q with
 | none=>rw[e]at this;cases this
 | some m=>rw[e]at this;simp at this;rw[this];exact k q m x e hp
theorem alE{t:Tbl}{k:Str×Int}{s:yw}:(ahe t k s).map (·.1)=t.map (·.1):=by
 unfold ahe
 split
 .rfl
 .rename_i h e
  rw[ad9,if_pos (by rw[<-Classical.not_not (a:=k.1∈_),<-xO,e];simp)]
theorem alF{t:Tbl}{k:Str×Int}:(af1 t k).map (·.1)=t.map (·.1):=by
 unfold af1
 split
 .rfl
 .rename_i h e
  rw[ad9,if_pos (by rw[<-Classical.not_not (a:=k.1∈_),<-xO,e];simp)]
theorem ant{t:Tbl}{k:Str×Int}:(ab1 t k).1.map (·.1)=t.map (·.1):=by
 unfold ab1
 split
 .exact alE
 .rfl
theorem aqe{t:Tbl}{k:Str×Int}{req:Int}{d:Str}:(aeu t k req d).1.map (·.1)=t.map (·.1):=by
 unfold aeu
 split
 .split
  .rfl
  .split
   .rfl
   .exact alE
 .rfl
theorem am1{t:Tbl}{k:Str×Int}{n:Int}:(kw t k n).1.map (·.1)=t.map (·.1):=by
 unfold kw
 split
 .split
  .exact alF
  .rfl
 .rfl
theorem anu{t:Tbl}{k:Str×Int}:(aap t k).1.map (·.1)=t.map (·.1):=by
 unfold aap
 split
 .exact alF
 .rfl
theorem afF{b:Nat}{t:Tbl}(h:kd b t):∀ p∈t.map (·.1),wo p=true:=fun p hp=>by
 obtain⟨q,hq,rfl⟩:=List.mem_map.1 hp
 exact(h.ok q hq).1
theorem yA.of{b c:Nat}{s s':Sto}(h:yA b s)(hc:b<=c)(ht:∀ p∈s.tbl.map (·.1),wo p=true)(hk:s'.tbl.map (·.1)=s.tbl.map (·.1))(hq:Qt s'.tree)(htop:Top s.tree s'.tree)(hr:∀ n,s'.tree.lookup [47]=some n->∃ m,s.tree.lookup [47]=some m/\n.ctr=m.ctr):yA c s':=
 ⟨hq,by rw[hk];exact htop.at1 ht h.at1,htop.own1 h.own1,fun n hn=>by
  obtain⟨m,h1,h2⟩:=hr n hn
  have:=h.rt m h1
  omega⟩
theorem yA.tbl{b c:Nat}{s s':Sto}(h:yA b s)(hc:b<=c)(ht:∀ p∈s.tbl.map (·.1),wo p=true)(hk:s'.tbl.map (·.1)=s.tbl.map (·.1))(he:s'.tree=s.tree):yA c s':=
 h.of hc ht hk (by rw[he];exact h.qt) (by rw[he];exact Top.refl _) fun n hn=>⟨n,by rw[<-he];exact hn,rfl⟩
theorem aqf{b:Nat}{st:St}{home:Str}{ws:List Int}(hi:wD b st)(hb:b<=4398046511103)(ho:∀ k n x,st.lookup k=some n->parts k=some [x]->n.own=0):Top st (yW st home ws).1:=by
 have:=aiB (P:=fun a=>wD b a/\Top st a) (home:=home) (ws:=ws) (st:=st) (fun a p hp _ h=>?_) ⟨hi,Top.refl st⟩
 .exact this.2
 .obtain⟨n,h1,h2,_⟩:=aqc hp
  exact⟨ajB h.1 hb,h.2.trans (akt h.1.inv.keys fun x e=>h2 (ho p n x h1 e))⟩
theorem arD{b:Nat}{st:St}{home:Str}{ws:List Int}(hi:wD b st)(hb:b<=4398046511103):∀ n,(yW st home ws).1.lookup [47]=some n->∃ m,st.lookup [47]=some m/\n.ctr=m.ctr:=by
 have:=aiB (P:=fun a=>wD b a/\∀ n,a.lookup [47]=some n->∃ m,st.lookup [47]=some m/\n.ctr=m.ctr) (home:=home) (ws:=ws) (st:=st) (fun a p hp _ h=>?_) ⟨hi,fun n hn=>⟨n,hn,rfl⟩⟩
 .exact this.2
 .refine⟨ajB h.1 hb,fun n hn=>?_⟩
  rcases abW a p (-1)with⟨e,_,he⟩ | ⟨n',u,he,_⟩
  .rw[he]at hn;exact h.2 n hn
  .rw[he]at hn
   simp only at hn
   rw[abr (by rw[ud];exact h.1.inv.keys)]at hn
   split at hn
   .cases hn
   .rw[vj]at hn
    split at hn
    .obtain⟨m',h1,h2⟩:=Option.map_eq_some_iff.1 hn
     obtain⟨m,h3,h4⟩:=h.2 m' h1
     exact⟨m,h3,by rw[<-h2];exact h4⟩
    .exact h.2 n hn
theorem arE{b:Nat}{st:St}{home:Str}{owner qn qb:Int}{ops:List MOp}(hi:wD b st)(hb:b<=4398046511000):∀ n,(wm st home owner qn qb ops).st.lookup [47]=some n->∃ m,st.lookup [47]=some m/\n.ctr=m.ctr:=fun n hn=>
 ⟨n,by rw[<-ako (home:=home) (owner:=owner) (qn:=qn) (qb:=qb) (ops:=ops) hi hb [47] (by rw[af8];simp)];exact hn,rfl⟩
theorem ajm{b c:Nat}{s:Sto}{k:Str×Int}(h:yA b s)(hc:b<=c)(i:kO c s)(hb:c<=33554433):yA c (agn s k):=
 h.of hc (afF i.tbl) rfl (arz h.qt) (aqf i.tree (by omega) h.own1) (arD i.tree (by omega))
theorem aku{t:Tbl}{home:Str}{nonce lease:Int}:∀ p∈(vC t home nonce lease).1.map (·.1),p∈t.map (·.1)\/p=home:=fun p hp=>by
 unfold vC at hp
 split at hp
 .exact .inl hp
 split at hp
 .exact .inl hp
 split at hp
 .exact .inl hp
 split at hp
 .exact .inl hp
 split at hp
 .exact .inl hp
 rw[ad9]at hp
 split at hp
 .exact .inl hp
 .rcases List.mem_append.1 hp with hp | hp
  .exact .inl hp
  .exact .inr (List.mem_singleton.1 hp)
theorem ao4{t:Tbl}{home:Str}{nonce lease:Int}(h:(vC t home nonce lease).2.2=0):wo home=true:=by
 unfold vC at h
 split at h
 .cases h
 .rename_i hn;simpa using hn
theorem alG{b:Nat}{s:Sto}{c:zI}(i:kO b s)(hb:b<=33554432)(h:yA b s):yA (b+1) (adj s c).1/\((adj s c).2.code=0->∃ n,(adj s c).1.tree.lookup (47::c.home)=some n):=by
 unfold adj
 by_cases h0:(vC s.tbl c.home c.nonce c.lease).2.2=0
 .rw[if_neg (by simpa using h0)]
  have hn:=ao4 h0
  simp only
  by_cases hl:(s.tree.lookup (47::c.home)).isNone=true
  .rw[if_pos ⟨hn,hl⟩]
   have hl':s.tree.lookup (47::c.home)=none:=by simpa using hl
   obtain⟨n,hr⟩:=i.tree.inv.root
   have hrc:=h.rt n hr
   have hq:=asK i.tree hn hr (by omega) hl' h.qt
   have e:=ajl i.tree hn hr (by omega) hl'
   have lk:∀ k,(wu s.tree (47::c.home) [] 0 false).1.lookup k=if k=[47]then some (jx n)else if k=47::c.home then some ⟨0,0,0,0,[]⟩else s.tree.lookup k:=fun k=>by
    rw[e]
    simp only
    rw[vj,ade]
    by_cases c1:k=[47]
    .subst c1;rw[if_pos rfl,if_pos rfl,hr];rfl
    .rw[if_neg c1,if_neg c1]
     by_cases c2:k=47::c.home
     .subst c2;rw[if_pos rfl,hl'];simp
     .cases s.tree.lookup k with
      | none=>simp[c2]
      | some m=>simp[c2]
   have hne:(47::c.home:Str)≠[47]:=fun x=>by have:=aa3 hn;simp at x;rw[x]at this;simp at this
   have hbump:(jx n).ctr=n.ctr+1:=by
    unfold jx
    have:=(i.tree.inv.ctr0 hr)
    exact SL.wg (by omega) (by omega)
   refine⟨⟨hq,fun p hp=>?_,fun k m x hk hp=>?_,fun m hm=>?_⟩,fun _=>⟨_,by rw[lk,if_neg hne,if_pos rfl]⟩⟩
   .simp only at hp⊢
    rw[lk]
    rcases aku p hp with hp | hp
    .obtain⟨m,hm⟩:=h.at1 p hp
     split
     .exact⟨_,rfl⟩
     .split
      .exact⟨_,rfl⟩
      .exact⟨m,hm⟩
    .rw[hp,if_neg hne,if_pos rfl];exact⟨_,rfl⟩
   .simp only at hk
    rw[lk]at hk
    split at hk
    .rename_i e1
     rw[e1]at hp
     have:parts [47]=some []:=rfl
     rw[this]at hp;cases hp
    .split at hk
     .cases hk;rfl
     .exact h.own1 k m x hk hp
   .simp only at hm
    rw[lk,if_pos rfl]at hm
    cases hm
    rw[hbump];omega
  .rw[if_neg (fun x=>hl x.2)]
   have hs:∃ n,s.tree.lookup (47::c.home)=some n:=by
    cases e:s.tree.lookup (47::c.home)with
    | none=>rw[e]at hl;exact absurd rfl hl
    | some n=>exact⟨n,rfl⟩
   refine⟨⟨h.qt,fun p hp=>?_,h.own1,fun n hn=>by have:=h.rt n hn;omega⟩,fun _=>hs⟩
   rcases aku p hp with hp | hp
   .exact h.at1 p hp
   .rw[hp];exact hs
 .rw[if_pos h0]
  refine⟨⟨h.qt,h.at1,h.own1,fun n hn=>by have:=h.rt n hn;omega⟩,fun hx=>?_⟩
  unfold za at hx
  simp only at hx
  exact absurd hx h0
theorem arF{b:Nat}{s:Sto}{c:zI}(i:kO b s)(hb:b<=33554432)(h:yA b s):yA (b+1) (doS s c).1:=by
 have ht:=afF i.tbl
 have same:yA (b+1) s:=h.tbl (by omega) ht rfl rfl
 unfold doS
 split
 .exact h.tbl (by omega) ht ant rfl
 split
 .unfold ago
  exact h.of (by omega) ht rfl (arA i.tree (by omega) h.qt) (ao3 i.tree (by omega)) (arE i.tree (by omega))
 split
 .unfold adk
  split
  .exact same
  .split
   .exact same
   .exact h.tbl (by omega) ht rfl rfl
 split
 .unfold aaO
  split
  .exact same
  .split
   .exact same
   .split
    .exact same
    .exact h.tbl (by omega) ht rfl rfl
 .exact same
theorem anv{b:Nat}{s:Sto}{c:zI}(i:kO b s)(hb:b<=33554432)(h:yA b s):yA (b+1) (xS s c).1:=by
 have ht:=afF i.tbl
 have i':kO (b+1) s:=⟨i.tree.mono (by omega),i.tbl.mono (by omega),i.hub.mono (by omega),by have:=i.ep;omega,i.mem⟩
 have same:yA (b+1) s:=h.tbl (by omega) ht rfl rfl
 unfold xS
 split
 .exact(alG i hb h).1
 split
 .split
  .refine ajm (b:=b+1) (h.tbl (by omega) ht am1 rfl) (by omega) ?_ (by omega)
   exact⟨i'.tree,af3 i'.tbl,i'.hub,i'.ep,i'.mem⟩
  .exact same
 split
 .unfold acP
  split
  .exact same
  .split
   .exact same
   .exact h.tbl (by omega) ht rfl rfl
 split
 .unfold acQ
  split
  .exact same
  split
  .exact same
  simp only
  have i1:kO b ({s with hub:=(af2 s.hub c.key c.ack).1}:Sto):=⟨i.tree,i.tbl,agr i.hub,i.ep,i.mem⟩
  split
  .refine ajm (b:=b+1) (h.tbl (by omega) ht anu rfl) (by omega) ?_ (by omega)
   exact⟨i'.tree,ahj i'.tbl,agr i'.hub,i'.ep,i'.mem⟩
  .have h1:yA b ({s with hub:=(af2 s.hub c.key c.ack).1}:Sto):=h.tbl (by omega) ht rfl rfl
   have h2:=arF (c:=c) i1 hb h1
   refine h2.tbl (by omega) ?_ aqe rfl
   exact afF (akV (c:=c) i1 hb).tbl
 .exact same
end Zt
namespace G
open Go SL
variable{B:World}{ro I:AH}
def aaP(B:World)(ro:AH)(u0 u1:Nat)(Q:Int->ByteArray->Int->Int->Int->Int->Int->Int->Sl->ByteArray->Bool->Int->Sl->AH->Prop)(u2:Sl)(I:AH):=
 ∃u3,qa ro I ((⟨u0,0,none⟩:Addr).add 12)=some (Sl.v u3)/\
 acl B ro u3 I fun u4 I=>
 stN ((⟨u0,0,none⟩:Addr).add 8) (fun I=>
 stN ((⟨u0,0,none⟩:Addr).add 12) (fun I=>
  ∃u5 u6 u7 u8 u9 u10 u11 u12 u13 u14 u15 u16 u17,qf ro I ⟨u0,0,none⟩ 0 [.int .i64 u5,.string u6,.int .i64 u7,.int .i64 u8,.int .i64 u9,.int .i64 u10,.int .i64 u11,.int .i64 u12,Sl.v u13,.string u14,.bool u15,.int .i64 u16,Sl.v u17]/\
  stN ⟨u1,0,none⟩ (fun I=>
  ∃u18 u19 u20 u21 u22 u23 u24 u25 u26 u27 u28 u29 u30,qf ro I ⟨u1,0,none⟩ 0 [.int .i64 u18,.string u19,.int .i64 u20,.int .i64 u21,.int .i64 u22,.int .i64 u23,.int .i64 u24,.int .i64 u25,Sl.v u26,.string u27,.bool u28,.int .i64 u29,Sl.v u30]/\
  Q u18 u19 u20 u21 u22 u23 u24 u25 u26 u27 u28 u29 u30 I) [.int .i64 u5,.string u6,.int .i64 u7,.int .i64 u8,.int .i64 u9,.int .i64 u10,.int .i64 u11,.int .i64 u12,Sl.v u13,.string u14,.bool u15,.int .i64 u16,Sl.v u17] 0 I) [Sl.v u4] 0 I) [Sl.v u2] 0 I
def yZ(B:World)(ro:AH)(u0 u1:Nat)(u2:Sl)(Q:Int->ByteArray->Int->Int->Int->Int->Int->Int->Sl->ByteArray->Bool->Int->Sl->AH->Prop):(Sl×Int)->AH->((Sl×Int)->AH->Prop)->Prop:=fun⟨u3,u4⟩ I Y10=>
 if u4<(u2.len:Int)then
 ∃p5,u2.a=some p5/\(0:Int)<=u4/\u4<(u2.len:Int)/\
 ∃u6 u7 u8 u9 u10 u11,qf ro I (p5.add (Int.toNat u4*6)) 0 [.int .i64 u6,.string u7,Sl.v u8,.int .i64 u9,.bool u10,.bool u11]/\
 nw ro I (.cells #[.int .i64 0,.string ByteArray.empty,Sl.v (⟨none,0,0⟩:Sl),.int .i64 0,.bool false,.bool false] 72) fun u12 I=>
 stN ⟨u12,0,none⟩ (fun I=>
  ∃u13,qa ro I ((⟨u12,0,none⟩:Addr).add 2)=some (Sl.v u13)/\
  ac3 B ro u13 I fun u14 I=>
  stN ((⟨u12,0,none⟩:Addr).add 2) (fun I=>
  ∃u15 u16 u17 u18 u19 u20,qf ro I ⟨u12,0,none⟩ 0 [.int .i64 u15,.string u16,Sl.v u17,.int .i64 u18,.bool u19,.bool u20]/\
  nw ro I (.cells #[.int .i64 u15,.string u16,Sl.v u17,.int .i64 u18,.bool u19,.bool u20] 72) fun u21 I=>
  awp prog ro (Builtin.append_ #[54,54] 54 #[Sl.v u3,Sl.v (⟨some ⟨u21,0,none⟩,1,1⟩:Sl)]) (fun v I=> ∃(u22:Sl),v=Sl.v u22/\
   Y10 (u22,i64.wrap (u4+1)) I) I) [Sl.v u14] 0 I) [.int .i64 u6,.string u7,Sl.v u8,.int .i64 u9,.bool u10,.bool u11] 0 I
 else
 aaP B ro u0 u1 Q u3 I
def adG(B:World)(ro:AH)(a0_0:Int)(a0_1:ByteArray)(a0_2 a0_3 a0_4 a0_5 a0_6 a0_7:Int)(a0_8:Sl)(a0_9:ByteArray)(a0_10:Bool)(a0_11:Int)(a0_12:Sl)(I:AH)(Q:Int->ByteArray->Int->Int->Int->Int->Int->Int->Sl->ByteArray->Bool->Int->Sl->AH->Prop):=
 nw ro I (.cells #[.int .i64 a0_0,.string a0_1,.int .i64 a0_2,.int .i64 a0_3,.int .i64 a0_4,.int .i64 a0_5,.int .i64 a0_6,.int .i64 a0_7,Sl.v a0_8,.string a0_9,.bool a0_10,.int .i64 a0_11,Sl.v a0_12] 57) fun u0 I=>
 nw ro I (.cells #[.int .i64 0,.string ByteArray.empty,.int .i64 0,.int .i64 0,.int .i64 0,.int .i64 0,.int .i64 0,.int .i64 0,Sl.v (⟨none,0,0⟩:Sl),.string ByteArray.empty,.bool false,.int .i64 0,Sl.v (⟨none,0,0⟩:Sl)] 57) fun u1 I=>
 ∃u2,qa ro I ((⟨u0,0,none⟩:Addr).add 8)=some (Sl.v u2)/\
 lfpD (yZ B ro u0 u1 u2 Q) ((⟨none,0,0⟩:Sl),0) I
theorem akv{a0_0:Int}{a0_1:ByteArray}{a0_2 a0_3 a0_4 a0_5 a0_6 a0_7:Int}{a0_8:Sl}{a0_9:ByteArray}{a0_10:Bool}{a0_11:Int}{a0_12:Sl}{Q:Int->ByteArray->Int->Int->Int->Int->Int->Int->Sl->ByteArray->Bool->Int->Sl->AH->Prop}(h:Sep ro I->adG B ro a0_0 a0_1 a0_2 a0_3 a0_4 a0_5 a0_6 a0_7 a0_8 a0_9 a0_10 a0_11 a0_12 I Q):adw B ro a0_0 a0_1 a0_2 a0_3 a0_4 a0_5 a0_6 a0_7 a0_8 a0_9 a0_10 a0_11 a0_12 I Q:=by
 refine zb h func23 ntmps23 fun h=>?_;unfold adG at h;refine z3 ?_;refine zA (wB rfl rfl) h fun u0 h=>?_;refine zA (qV rfl yo) h fun u1 h=>?_;refine z4 ?_;refine zp ?_;refine z2 ?_;refine AW.seqJ (fun fr I=> ∃(u2:Sl),qo [(1,.pointer (some ⟨u0,0,none⟩)),(2,.pointer (some ⟨u1,0,none⟩)),(3,Sl.v u2)] fr/\aaP B ro u0 u1 Q u2 I) ?_ ?_
 .rintro fr I ⟨u2,hl,h⟩;refine AW.weaken ?_ hl (HLe.refl _)
  unfold aaP at h;refine z3 ?_;refine zp ?_;refine zf underlying57 afO ?_;refine zL underlying55 h fun u3 h=>?_;refine zc func76 h ?_;rintro v I ⟨u4,rfl,h⟩;refine zf underlying57 amh ?_;refine zs amh h fun I h=>?_;refine zf underlying57 afO ?_;refine zs afO h fun I h=>?_;refine z4 ?_;obtain⟨u5,u6,u7,u8,u9,u10,u11,u12,u13,u14,u15,u16,u17,hc,h⟩:=h
  refine zl (wI rfl underlying57 rfl yo rfl hc ?_)
  refine zs yo h fun I h=>?_;refine z2 ?_;refine AW.ret ?_;obtain⟨u18,u19,u20,u21,u22,u23,u24,u25,u26,u27,u28,u29,u30,hc0,h⟩:=h
  exact xA results23 (wy (vH rfl underlying57 rfl yo hc0) vG) ⟨_,_,_,_,_,_,_,_,_,_,_,_,_,rfl,h⟩
 refine z3 ?_;refine zf underlying57 amh ?_;refine zL underlying54 h fun u31 h=>?_;refine zm (qM rfl rfl underlying54 rfl rfl) ?_;refine zp ?_;refine z2 (AW.block ?_)
 refine qk.loop (fr':=[(1,.pointer (some ⟨u0,0,none⟩)),(2,.pointer (some ⟨u1,0,none⟩)),(7,Sl.v u31),(8,.int .i64 (u31.len:Int)),(3,Sl.v (⟨none,0,0⟩:Sl)),(9,.int .i64 0)]) ?_ FL
 refine h (fun⟨u32,u33⟩ I=>qk _ _ _ _ _ _ [(1,.pointer (some ⟨u0,0,none⟩)),(2,.pointer (some ⟨u1,0,none⟩)),(7,Sl.v u31),(8,.int .i64 (u31.len:Int)),(3,Sl.v u32),(9,.int .i64 u33)] I) ?_
 rintro⟨u32,u33⟩ I Y10 hY10 h
 show AW _ _ _ _ _ _ _ _
 unfold yZ at h;dsimp only at h;refine z3 ?_;refine zp ?_;refine z2 (AW.seq ?_)
 refine zi h (fun h=>?_) fun h=>?_
 rotate_left
 .refine AW.exit ?_;refine qD (qD ?_);refine wC ?_
  refine qd ?_;exact⟨_,FL,h⟩
 refine AW.skip ?_;refine qd (AW.seq (AW.block (z3 ?_)));obtain⟨p34,ha,h0,h1,h⟩:=h
 refine zm (vy rfl underlying54 adv (ixL rfl ha) rfl h0 h1) ?_;obtain⟨u35,u36,u37,u38,u39,u40,hc,h⟩:=h
 refine zl (wI rfl underlying72 rfl adv rfl hc ?_)
 refine zA (qV rfl adv) h fun u41 h=>?_;refine zs adv h fun I h=>?_;refine z4 ?_;refine zf underlying72 wz ?_;refine zL underlying24 h fun u42 h=>?_;refine zc func16 h ?_;rintro v I ⟨u43,rfl,h⟩;refine zf underlying72 wz ?_;refine zs wz h fun I h=>?_;refine z2 (AW.reg ?_)
 refine zp ?_;obtain⟨u44,u45,u46,u47,u48,u49,hc,h⟩:=h
 refine zl (wI rfl underlying72 rfl adv rfl hc ?_)
 refine zA (zC (vs:=[(0,.agg #[.int .i64 u44,.string u45,Sl.v u46,.int .i64 u47,.bool u48,.bool u49])]) (cs:= #[.int .i64 u44,.string u45,Sl.v u46,.int .i64 u47,.bool u48,.bool u49]) rfl underlying54 adv (by decide) rfl rfl) h fun u50 h=>?_;refine zl (xi (s:=Builtin.append_ #[54,54] 54 #[Sl.v u32,Sl.v (⟨some ⟨u50,0,none⟩,1,1⟩:Sl)]) rfl rfl (fun _=>rfl) (qm _ h ?_))
 rintro v I ⟨u51,rfl,h⟩;refine zp ?_;refine jh (qC (qd (AW.reg ?_)));iterate 2 refine zp ?_
 refine z2 ?_;refine qk.head (fr':=[(1,.pointer (some ⟨u0,0,none⟩)),(2,.pointer (some ⟨u1,0,none⟩)),(7,Sl.v u31),(8,.int .i64 (u31.len:Int)),(3,Sl.v u51),(9,.int .i64 (i64.wrap (u33+1)))]) ?_ FL
 exact hY10 _ _ h
end G
namespace Zt
open Go SL G Pa Wi
variable{B:World}{ro I I':AH}{tag tag':Nat->Nat}
theorem aqg{s:Sl}{l:List Int}{Q:Option Addr->Int->AH->Prop}(h:SL.wx ro I s (l.map vI))(hl:l.length<=1048576)(hr:aac l=true)
  (hQ:∀ W tag' I',StepS CN ro tag I tag' I'->adn tag' I' W (Sto.new l)->Q (some ⟨W,0,none⟩) 0 I'):abN B ro s I Q:=by
 refine ait fun hs=>?_
 unfold adS
 refine an4 h hl ?_
 rw[hr,if_neg (by simp)]
 refine afD (tag:=tag) 118 h hs (by simpa using hl) (by simp[qh]) fun ms tag1 I1 st1 r1=>?_
 refine apn (tag:=tag1) 10 (by decide) (by decide) fun T tag2 I2 st2 t2=>?_
 refine agx fun hs2=>?_
 unfold acg
 refine age kS (tag:=tag2) 119 hs2 fun M tag3 I3 st3 m3=>?_
 refine qi (tag:=tag3) 55 (st3 []).sep fun Tt tag4 I4 st4 r4=>?_
 refine aiv fun hs4=>?_
 unfold adT
 refine age kSI (tag:=tag4) 126 hs4 fun Mh tag5 I5 st5 m5=>?_
 refine qi (tag:=tag5) 62 (st5 []).sep fun Th tag6 I6 st6 r6=>?_
 refine qi (tag:=tag6) 54 (st6 []).sep fun W tag7 I7 st7 r7=>?_
 have k6:qe [] ro tag4 I4 tag7 I7:=((st5 []).trans (st6 [])).trans (st7 [])
 have k3:qe [] ro tag3 I3 tag7 I7:=(st4 []).trans k6
 have k2:qe [] ro tag2 I2 tag7 I7:=(st3 []).trans k3
 have k5:qe [] ro tag5 I5 tag7 I7:=(st6 []).trans (st7 [])
 refine hQ W tag7 I7 (((st1 []).s (by simp)).trans ((st2.s (by simp)).trans (k2.s (by simp)))) ⟨T,Tt,Th,ms,r7,?_,t2.keep k2,⟨M,[],r4.keep k6,yh.nil (m3.keep k3)⟩,⟨Mh,[],r6.keep (st7 []),yh.nil (m5.keep k5)⟩⟩
 exact(r1.keepC st2).keep k2
theorem anw{a0:Sl}{ws:List Int}{Q:Sl->AH->Prop}(q:Nat)(h:SL.wx ro I a0 (ws.map vI))(hl:ws.length<=1073741824)
  (hQ:∀ s tag' I',qe [q] ro tag I tag' I'->Row tag' I' q 3 s (ws.map vI)->Q s I'):acl B ro a0 I Q:=by
 refine aiX fun hs=>?_
 unfold acw
 have hln:a0.len=ws.length:=by rw[h.1,List.length_map]
 rw[hln]
 refine⟨⟨by omega,by omega,by omega,by omega⟩,?_⟩
 rw[Int.toNat_natCast]
 intro b hro hb
 have st1:∀ R,qe R ro tag I (setTag tag b q) (upd I b (.cells (uN (.int .i64 0) (ws.length*1)) 3)):=fun R=>qe.fresh hs hro hb
 have r1:Row (setTag tag b q) (upd I b (.cells (uN (.int .i64 0) (ws.length*1)) 3)) q 3 ⟨some ⟨b,0,none⟩,ws.length,ws.length⟩ (List.replicate ws.length (vI 0)):=by
  refine .inr ⟨b,_,rfl,by simp[setTag],qH _ _ _,by simp,by rw[ajZ];simp,Nat.le_refl _,fun i hi=>?_⟩
  simp at hi
  rw[alb _ rfl _ _ (by omega),List.getElem?_replicate,if_pos hi]
 have h1:SL.wx ro _ a0 (ws.map vI):=h.step (st1 [])
 have:=ah2 (P:=prog) (ro:=ro) (t:=55) (t2:=55) (ty:=3) (m:=0) (l2:=ws.map vI) (Q:=fun v I=> ∃(x9_2:Int),v= .int .i64 x9_2/\Q ⟨some ⟨b,0,none⟩,ws.length,ws.length⟩ I) r1 (st1 []).sep (by kernel_rfl) aoR (wx.src h1) (by simp) (by simp[qh]) (fun I2 st2 r2=>?_)
 .rw[yE]at this
  exact this
 .rw[List.take_zero,List.nil_append]at r2
  exact⟨_,rfl,hQ _ (setTag tag b q) I2 ((st1 [q]).trans st2) r2⟩
abbrev at2:List Value:=[.int .i64 0,.string ByteArray.empty,.int .i64 0,.int .i64 0,.int .i64 0,.int .i64 0,.int .i64 0,.int .i64 0,Sl.v (⟨none,0,0⟩:Sl),.string ByteArray.empty,.bool false,.int .i64 0,Sl.v (⟨none,0,0⟩:Sl)]
theorem an5(c:zI)(os ms:Sl):∀ v∈ahx c os ms,qh v=true:=by simp[qh,Sl.v]
abbrev C17:List Nat:=[0,11,16,22,24,28]
structure arZ(ro:AH)(os ms:Sl)(c:zI):Prop where
 ops:aoE ro os c.ops
 mem:SL.wx ro (fun _=>none) ms (c.members.map vI)
theorem aeP{R:List Nat}{q:Nat}{s:Sl}{ops:List MOp}(h:aaN tag I q s ops)(k:qe R ro tag I tag' I')(hq:q∉R)(h6:6∉R):aaN tag' I' q s ops:=by
 obtain⟨ds,h1,h2,h3⟩:=h
 exact⟨ds,h1,qp.keep h2 k hq,fun i o d ho hd=>(h3 i o d ho hd).keep k h6⟩
theorem anx{os ms:Sl}{c:zI}{Q:Int->ByteArray->Int->Int->Int->Int->Int->Int->Sl->ByteArray->Bool->Int->Sl->AH->Prop}(h:arZ ro os ms c)(hl:c.ops.length<=2199023255488)(hml:c.members.length<=1048576)
  (hQ:∀ os' ms' tag' I',StepS C17 ro tag I tag' I'->afk tag' I' 24 28 os' ms' c->Q c.kind (S c.home) c.session c.req c.nonce c.lease c.beats c.ack os' (S c.path) c.watch c.epoch ms' I'):
  adw B ro c.kind (S c.home) c.session c.req c.nonce c.lease c.beats c.ack os (S c.path) c.watch c.epoch ms I Q:=by
 refine akv fun hsep=>?_
 unfold adG
 refine qi (tag:=tag) 11 hsep fun X tag1 I1 st1 r1=>?_
 refine qi (tag:=tag1) 16 (st1 []).sep fun Y tag2 I2 st2 r2=>?_
 have x2:=r1.keep (st2 [])
 refine⟨os,(x2.read (st2 []).sep).2.2 _ rfl 8 _ rfl,?_⟩
 have hln:=h.ops.1
 suffices∀m j s tag3 I3,j+m=c.ops.length->StepS C17 ro tag I tag3 I3->Row tag3 I3 11 57 ⟨some ⟨X,0,none⟩,13,13⟩ (ahx c os ms)->Row tag3 I3 16 57 ⟨some ⟨Y,0,none⟩,13,13⟩ at2->aaN tag3 I3 24 s (c.ops.take j)->lfpD (yZ B ro X Y os Q) (s,(j:Int)) I3 from
  this _ 0 ⟨none,0,0⟩ tag2 I2 (Nat.zero_add _) (((st1 []).trans (st2 [])).s (by simp)) x2 r2 ⟨[],rfl,qp.nil _ _ _,fun i o d h=>by cases h⟩
 intro m
 induction m with
 | zero=>
  intro j s tag3 I3 hj st3 x3 y3 h3
  refine lfpD.intro ?_
  unfold yZ
  simp only
  rw[if_neg (by omega)]
  unfold aaP
  rw[List.take_of_length_le (by omega)]at h3
  refine⟨ms,(x3.read st3.sep).2.2 _ rfl 12 _ rfl,?_⟩
  refine anw (tag:=tag3) 28 h.mem.keep (by omega) fun ms' tag4 I4 st4 m4=>?_
  have x4:=x3.keep st4
  have y4:=y3.keep st4
  have o4:=aeP h3 st4 (by simp) (by simp)
  refine x4.stAt [Sl.v s] 8 st4.sep (by simp) (by simp[qh,Sl.v]) fun I5 st5 x5=>?_
  refine x5.stAt [Sl.v ms'] 12 st5.sep (by simp) (by simp[qh,Sl.v]) fun I6 st6 x6=>?_
  have x7:Row tag4 I6 11 57 ⟨some ⟨X,0,none⟩,13,13⟩ (ahx c s ms'):=x6
  have k6:qe [11] ro tag4 I4 tag4 I6:=st5.trans st6
  refine⟨_,_,_,_,_,_,_,_,_,_,_,_,_,qx (x7.read st6.sep) rfl,?_⟩
  refine(y4.keep k6).stPre (ahx c s ms') 0 _ I6 st6.sep (by simp) (an5 _ _ _) fun I7 st7 y7=>?_
  have y8:Row tag4 I7 16 57 ⟨some ⟨Y,0,none⟩,13,13⟩ (ahx c s ms'):=y7
  refine⟨_,_,_,_,_,_,_,_,_,_,_,_,_,qx (y8.read st7.sep) rfl,?_⟩
  exact hQ s ms' tag4 I7 (st3.trans ((st4.s (by simp)).trans ((k6.s (by simp)).trans (st7.s (by simp))))) ⟨aeP (aeP o4 k6 (by simp) (by simp)) st7 (by simp) (by simp),(m4.keep k6).keep st7⟩
 | succ m ih=>
  intro j s tag3 I3 hj st3 x3 y3 h3
  have hjl:j<c.ops.length:=by omega
  obtain⟨q,ds,hq,hc,hrd,hdl⟩:=(h.ops.m I3).2 j c.ops[j] (List.getElem?_eq_getElem hjl)
  refine lfpD.intro ?_
  unfold yZ
  simp only
  rw[if_pos (by omega)]
  refine⟨q,hq,by omega,by omega,c.ops[j].kind,S c.ops[j].path,ds,c.ops[j].ver,c.ops[j].eph,c.ops[j].seq,by rw[Int.toNat_natCast];exact hc,?_⟩
  refine kl (tag:=tag3) 22 st3.sep rfl (by simp[qh,Sl.v]) fun x tag4 I4 st4 r4=>?_
  refine⟨ds,(r4.read (st4 []).sep).2.2 _ rfl 2 _ rfl,?_⟩
  refine aqY (tag:=tag4) 6 hrd.keep (st4 []).sep (by simp;omega) (by simp[qh]) fun s' tag5 I5 st5 r5=>?_
  refine(r4.keep (st5 [])).st (i:=2) (st5 []).sep rfl (by simp) rfl fun I6 st6 r6=>?_
  refine⟨c.ops[j].kind,S c.ops[j].path,s',c.ops[j].ver,c.ops[j].eph,c.ops[j].seq,Row.cellsAt r6 st6.sep,?_⟩
  refine qi (tag:=tag5) 0 st6.sep fun y tag7 I7 st7 r7=>?_
  have k37:qe [22] ro tag3 I3 tag7 I7:=((st4 _).trans (st5 _)).trans (st6.trans (st7 _))
  obtain⟨dd,d1,d2,d3⟩:=aeP h3 k37 (by simp) (by simp)
  have hlz:(List.zipWith opV (c.ops.take j) dd).length=j:=by rw[List.length_zipWith,d1,Nat.min_self,List.length_take];omega
  refine yD (l2:=[opV c.ops[j] s']) d2 (st7 []).sep (Row.readW1 r7 (st7 []).sep rfl (by decide)) (t:=54) (by kernel_rfl) adv rfl (by simp[opV,qh,Sl.v]) (by rw[hlz];simp;omega) (by decide) fun sn tag8 I8 st8 r8=>?_
  have st8':=st8 [24] (.inr (by simp))
  refine⟨sn,rfl,?_⟩
  rw[Pa.inc j (by omega)]
  refine ih (j+1) sn tag8 I8 (by omega) (st3.trans ((k37.s (by simp)).trans (st8'.s (by simp)))) ((x3.keep k37).keep st8') ((y3.keep k37).keep st8') ?_
  have etk:c.ops.take (j+1)=c.ops.take j++[c.ops[j]]:=by rw[List.take_add_one,List.getElem?_eq_getElem hjl];rfl
  rw[etk]
  refine⟨dd++[s'],by rw[List.length_append,List.length_append,d1];rfl,?_,fun i o d ho hd=>?_⟩
  .rw[List.zipWith_append d1.symm];exact r8
  .rcases Nat.lt_or_ge i (c.ops.take j).length with h | h
   .rw[List.getElem?_append_left h]at ho
    rw[List.getElem?_append_left (by omega)]at hd
    exact(d3 i o d ho hd).keep st8'
   .rw[List.getElem?_append_right h]at ho
    rw[List.getElem?_append_right (by omega),d1]at hd
    cases hz:i - (c.ops.take j).length with
    | zero=>
     rw[hz]at ho hd
     cases ho;cases hd
     exact((r5.keep st6).keep (st7 [])).keep st8'
    | succ k=>rw[hz]at ho;cases ho
end Zt
namespace G
open Go SL
variable{B:World}{ro I:AH}
def pt(B:World)(ro:AH)(Q:Bool->AH->Prop)(I:AH):=
 aef B ro I fun u0 I=>
 Q u0 I
def xV(B:World)(ro:AH)(a0:Sl)(u0:Option Addr)(u1:Int)(Q:Bool->AH->Prop)(Y6:Int->AH->Prop)(u2:Bool)(I:AH):=
 if u2=true then
 Q false I
 else
 Y6 (i64.wrap (u1+1)) I
def kz(B:World)(ro:AH)(a0:Sl)(u0:Nat)(u1:Option Addr)(u2:Int)(u3:Option Addr)(Q:Bool->AH->Prop)(Y6:Int->AH->Prop)(I:AH):=
 ∃u4,qa ro I ((⟨u0,0,none⟩:Addr).add 1)=some (.string u4)/\
 nw ro I (.cells #[.string u4] 9) fun u5 I=>
 ab7 B ro u3 (⟨some ⟨u5,0,none⟩,1,1⟩:Sl) I fun u6 u7 I=>
 nw ro I (.cells #[.int .i64 0,.int .i64 0] 66) fun u8 I=>
 stN ⟨u8,0,none⟩ (fun I=>
 ∃u9,qa ro I ⟨u8,0,none⟩=some (.int .i64 u9)/\
 if 64<u9 then
  xV B ro a0 u1 u2 Q Y6 true I
 else
 ∃u10,qa ro I ((⟨u8,0,none⟩:Addr).add 1)=some (.int .i64 u10)/\
 xV B ro a0 u1 u2 Q Y6 (decide (8192<u10)) I) [.int .i64 u6,.int .i64 u7] 0 I
def kC(B:World)(ro:AH)(a0:Sl)(u0:Nat)(u1:Option Addr)(u2:Int)(u3:Option Addr)(Q:Bool->AH->Prop)(Y6:Int->AH->Prop)(u4:Bool)(I:AH):=
 if u4=true then
 ∃u5,qa ro I ((⟨u0,0,none⟩:Addr).add 1)=some (.string u5)/\
 (⟨#[47]⟩:ByteArray).size+u5.size<=9223372036854775807/\
 xj B ro u3 ((⟨#[47]⟩:ByteArray)++u5) I fun u6 u7 u8 u9 u10 u11 I=>
 nw ro I (.cells #[.int .i64 0,.int .i64 0,.int .i64 0,.int .i64 0] 26) fun u12 I=>
 stN ⟨u12,0,none⟩ (fun I=>
  if¬(u11=0)then
  Q false I
  else
  kz B ro a0 u0 u1 u2 u3 Q Y6 I) [.int .i64 u7,.int .i64 u8,.int .i64 u9,.int .i64 u10] 0 I
 else
 kz B ro a0 u0 u1 u2 u3 Q Y6 I
def kZ(B:World)(ro:AH)(a0:Sl)(u0:Option Addr)(Q:Bool->AH->Prop):Int->AH->(Int->AH->Prop)->Prop:=fun u1 I Y6=>
 if u1<(a0.len:Int)then
 ∃p2,a0.a=some p2/\(0:Int)<=u1/\u1<(a0.len:Int)/\
 ∃u3 u4 u5 u6 u7 u8 u9 u10 u11 u12 u13 u14 u15,qf ro I (p2.add (Int.toNat u1*13)) 0 [.int .i64 u3,.string u4,.int .i64 u5,.int .i64 u6,.int .i64 u7,.int .i64 u8,.int .i64 u9,.int .i64 u10,Sl.v u11,.string u12,.bool u13,.int .i64 u14,Sl.v u15]/\
 nw ro I (.cells #[.int .i64 0,.string ByteArray.empty,.int .i64 0,.int .i64 0,.int .i64 0,.int .i64 0,.int .i64 0,.int .i64 0,Sl.v (⟨none,0,0⟩:Sl),.string ByteArray.empty,.bool false,.int .i64 0,Sl.v (⟨none,0,0⟩:Sl)] 57) fun u16 I=>
 stN ⟨u16,0,none⟩ (fun I=>
  ∃u17 u18 u19 u20 u21 u22 u23 u24 u25 u26 u27 u28 u29,qf ro I ⟨u16,0,none⟩ 0 [.int .i64 u17,.string u18,.int .i64 u19,.int .i64 u20,.int .i64 u21,.int .i64 u22,.int .i64 u23,.int .i64 u24,Sl.v u25,.string u26,.bool u27,.int .i64 u28,Sl.v u29]/\
  adw B ro u17 u18 u19 u20 u21 u22 u23 u24 u25 u26 u27 u28 u29 I fun u30 u31 u32 u33 u34 u35 u36 u37 u38 u39 u40 u41 u42 I=>
  jp B ro u0 u30 u31 u32 u33 u34 u35 u36 u37 u38 u39 u40 u41 u42 I fun u43 u44 u45 u46 u47 u48 u49 u50 u51 u52 u53 u54 I=>
  nw ro I (.cells #[.int .i64 0,.int .i64 0,Sl.v (⟨none,0,0⟩:Sl),.int .i64 0,Sl.v (⟨none,0,0⟩:Sl),.int .i64 0,.int .i64 0,.int .i64 0,.int .i64 0,Sl.v (⟨none,0,0⟩:Sl),Sl.v (⟨none,0,0⟩:Sl),.int .i64 0] 30) fun u55 I=>
  stN ⟨u55,0,none⟩ (fun I=>
  aaY B ro u0 I fun u56 I=>
  if u56=none then
   Q false I
  else
  ∃u57,qa ro I ⟨u16,0,none⟩=some (.int .i64 u57)/\
  if u57=1 then
   ∃u58,qa ro I ⟨u55,0,none⟩=some (.int .i64 u58)/\
   kC B ro a0 u16 u0 u1 u56 Q Y6 (decide (u58=0)) I
  else
  kC B ro a0 u16 u0 u1 u56 Q Y6 false I) [.int .i64 u43,.int .i64 u44,Sl.v u45,.int .i64 u46,Sl.v u47,.int .i64 u48,.int .i64 u49,.int .i64 u50,.int .i64 u51,Sl.v u52,Sl.v u53,.int .i64 u54] 0 I) [.int .i64 u3,.string u4,.int .i64 u5,.int .i64 u6,.int .i64 u7,.int .i64 u8,.int .i64 u9,.int .i64 u10,Sl.v u11,.string u12,.bool u13,.int .i64 u14,Sl.v u15] 0 I
 else
 pt B ro Q I
def abm(B:World)(ro:AH)(a0:Sl)(I:AH)(Q:Bool->AH->Prop):=
 nw ro I (.cells #[.int .i64 0] 3) fun u0 I=>
 abN B ro (⟨some ⟨u0,0,none⟩,1,1⟩:Sl) I fun u1 u2 I=>
 if(u1=none)\/(¬(u2=0))then
 Q false I
 else
 lfpD (kZ B ro a0 u1 Q) (0) I
theorem ahP{a0:Sl}{Q:Bool->AH->Prop}(h:Sep ro I->abm B ro a0 I Q):ad0 B ro a0 I Q:=by
 refine zb h func5 ntmps5 fun h=>?_;unfold abm at h;refine z3 ?_;refine zp ?_;refine z4 ?_;refine zA (zC (vs:=[(0,.int .i64 0)]) (cs:= #[.int .i64 0]) rfl underlying55 ty3 (by decide) rfl rfl) h fun u0 h=>?_;refine zc func21 h ?_;rintro v I ⟨u1,u2,rfl,h⟩;iterate 5 refine zp ?_
 refine z2 (AW.seq (z3 ?_))
 refine zp ?_;refine zm (adM rfl underlying51 rfl rfl) ?_;refine zp ?_;refine zw 3 u1.isNone [(0,Sl.v a0),(3,.pointer u1),(23,.bool (u1.isNone || (!(decide (u2=0)))))] ?_ ?_ ?_
 .intro e2 hk2
  iterate 2 refine zn e2 ?_
  refine zk e2 ?_;exact hk2 _ (Fe e2)
 .intro e2 hk2
  refine zy e2 ?_;refine zy e2 ?_;refine zk e2 ?_;exact hk2 _ (Fe e2)
 intro fr hl
 refine Lfr hl ?_
 refine z2 ?_;refine AW.iff rfl (vu zD (qu decide_eq_true_iff)) h (fun h=>?_) (fun h=>?_)
 .refine z3 ?_;refine zp ?_;refine z2 ?_;refine AW.ret ?_;refine qj ?_;exact bR1 results5 rfl ⟨_,rfl,h⟩
 refine AW.skip ?_;refine qd ?_;refine AW.seqJ (fun fr I=>qo [] fr/\pt B ro Q I) ?_ ?_
 .rintro fr I ⟨hl,h⟩;refine AW.weaken ?_ hl (HLe.refl _)
  unfold pt at h;refine z3 ?_;refine zc func20 h ?_;rintro v I ⟨u3,rfl,h⟩;refine zp ?_;refine z2 ?_;refine AW.ret ?_;exact bR1 results5 rfl ⟨_,rfl,h⟩
 refine z3 ?_;refine zp ?_;refine zm (qM rfl rfl underlying50 rfl rfl) ?_;refine zp ?_;refine z2 (AW.block ?_)
 refine qk.loop (fr':=[(3,.pointer u1),(24,Sl.v a0),(25,.int .i64 (a0.len:Int)),(26,.int .i64 0)]) ?_ FL
 refine h (fun u4 I=>qk _ _ _ _ _ _ [(3,.pointer u1),(24,Sl.v a0),(25,.int .i64 (a0.len:Int)),(26,.int .i64 u4)] I) ?_
 rintro u4 I Y6 hY6 h
 show AW _ _ _ _ _ _ _ _
 unfold kZ at h;refine z3 ?_;refine zp ?_;refine z2 (AW.seq ?_)
 refine zi h (fun h=>?_) fun h=>?_
 rotate_left
 .refine AW.exit ?_;refine qD (qD ?_);refine wC ?_
  refine qd ?_;exact⟨FL,h⟩
 refine AW.skip ?_;refine qd (AW.seq (AW.block (z3 ?_)));obtain⟨p5,ha,h0,h1,h⟩:=h
 refine zm (vy rfl underlying50 yo (ixL rfl ha) rfl h0 h1) ?_;obtain⟨u6,u7,u8,u9,u10,u11,u12,u13,u14,u15,u16,u17,u18,hc,h⟩:=h
 refine zl (wI rfl underlying57 rfl yo rfl hc ?_)
 refine zA (qV rfl yo) h fun u19 h=>?_;refine zs yo h fun I h=>?_;refine z4 ?_;refine zp ?_;obtain⟨u20,u21,u22,u23,u24,u25,u26,u27,u28,u29,u30,u31,u32,hc,h⟩:=h
 refine zl (wI rfl underlying57 rfl yo rfl hc ?_)
 refine zc func23 h ?_;rintro v I ⟨u33,u34,u35,u36,u37,u38,u39,u40,u41,u42,u43,u44,u45,rfl,h⟩;refine zc func22 h ?_;rintro v I ⟨u46,u47,u48,u49,u50,u51,u52,u53,u54,u55,u56,u57,rfl,h⟩;refine zA (qV rfl qJ) h fun u58 h=>?_;refine zs qJ h fun I h=>?_;refine z4 ?_;refine zp ?_;refine zc func24 h ?_;rintro v I ⟨u59,rfl,h⟩;refine zp ?_;refine z2 (AW.seq (z3 ?_))
 refine zp ?_;refine zm (adM rfl underlying61 rfl rfl) ?_;refine z2 ?_;refine AW.iff rfl zD h (fun h=>?_) (fun h=>?_)
 .refine z3 ?_;refine zp ?_;refine z2 ?_;refine AW.ret ?_;refine qj (qw (qj (qj (qw (qj ?_)))));exact bR1 results5 rfl ⟨_,rfl,h⟩
 refine AW.skip ?_;refine qd ?_;refine AW.seqJ (fun fr I=>qo [(3,.pointer u1),(6,.pointer (some ⟨u19,0,none⟩)),(8,.pointer u59),(24,Sl.v a0),(25,.int .i64 (a0.len:Int)),(26,.int .i64 u4)] fr/\kz B ro a0 u19 u1 u4 u59 Q Y6 I) ?_ ?_
 .rintro fr I ⟨hl,h⟩;refine AW.weaken ?_ hl (HLe.refl _)
  unfold kz at h;refine z3 ?_;refine zp ?_;refine zf underlying57 ty9 ?_;refine zL underlying9 h fun u60 h=>?_;refine zA (zC (vs:=[(0,.string u60)]) (cs:= #[.string u60]) rfl underlying27 ty9 (by decide) rfl rfl) h fun u61 h=>?_;refine zc func26 h ?_;rintro v I ⟨u62,u63,rfl,h⟩;refine zA (qV rfl aaX) h fun u64 h=>?_;refine zs aaX h fun I h=>?_;refine z4 ?_
  refine zf underlying66 ty3 ?_;refine zL underlying3 h fun u65 h=>?_;iterate 2 refine zp ?_
  refine qQ 4 (decide (64<u65)) decide_eq_true_iff h (fun fr I=> ∃(u66:Bool),qo [(3,.pointer u1),(24,Sl.v a0),(25,.int .i64 (a0.len:Int)),(26,.int .i64 u4),(69,.bool u66)] fr/\xV B ro a0 u1 u4 Q Y6 u66 I) ?_ ?_ ?_
  .intro h e3 hk3;iterate 3 refine zn e3 ?_
   refine zk e3 ?_;exact hk3 _ _ ⟨_,FL,h⟩
  .intro h e3 hk3;refine qW (we rfl underlying66 rfl ty3 (by decide) rfl) rfl rfl rfl rfl e3 ?_
   obtain⟨u67,hc,h⟩:=h
   refine Lyb rfl rfl rfl rfl e3 (vF rfl underlying3 rfl rfl hc ?_)
   refine zy e3 ?_;refine zk e3 ?_;exact hk3 _ _ ⟨_,FL,h⟩
  rintro fr I ⟨u66,hl,h⟩;unfold xV at h;refine Lfr hl ?_
  refine z2 ?_;refine zj h (fun h=>?_) fun h=>?_
  .refine z3 ?_;refine zp ?_;refine z2 ?_;refine AW.ret ?_;refine qw (qj (qj (qw (qj ?_))));exact bR1 results5 rfl ⟨_,rfl,h⟩
  refine AW.skip ?_;refine qC (qd (AW.reg ?_));iterate 2 refine zp ?_
  refine z2 ?_;refine qk.head (fr':=[(3,.pointer u1),(24,Sl.v a0),(25,.int .i64 (a0.len:Int)),(26,.int .i64 (i64.wrap (u4+1)))]) ?_ FL
  exact hY6 _ _ h
 refine z3 ?_;refine zf underlying57 ty3 ?_;refine zL underlying3 h fun u68 h=>?_;iterate 2 refine zp ?_
 refine qQ 4 (decide (u68=1)) decide_eq_true_iff h (fun fr I=> ∃(u69:Bool),qo [(3,.pointer u1),(6,.pointer (some ⟨u19,0,none⟩)),(8,.pointer u59),(24,Sl.v a0),(25,.int .i64 (a0.len:Int)),(26,.int .i64 u4),(45,.bool u69)] fr/\kC B ro a0 u19 u1 u4 u59 Q Y6 u69 I) ?_ ?_ ?_
 .intro h e3 hk3;refine qW (we rfl underlying30 rfl aed (by decide) rfl) rfl rfl rfl rfl e3 ?_
  obtain⟨u70,hc,h⟩:=h
  refine Lyb rfl rfl rfl rfl e3 (vF rfl underlying22 rfl rfl hc ?_)
  refine zy e3 ?_;refine zk e3 ?_;exact hk3 _ _ ⟨_,FL,h⟩
 .intro h e3 hk3;iterate 3 refine zn e3 ?_
  refine zk e3 ?_;exact hk3 _ _ ⟨_,FL,h⟩
 rintro fr I ⟨u69,hl,h⟩;unfold kC at h;refine Lfr hl ?_
 refine z2 ?_;refine zj h (fun h=>?_) fun h=>?_
 rotate_left
 .refine AW.skip ?_;refine qd ?_;exact⟨FL,h⟩
 refine z3 ?_;refine zp ?_;refine zf underlying57 ty9 ?_;refine zL underlying9 h fun u71 h=>?_;obtain⟨hc,h⟩:=h
 refine zm (aiE rfl rfl rfl hc) ?_;refine zc func25 h ?_;rintro v I ⟨u72,u73,u74,u75,u76,u77,rfl,h⟩;iterate 4 refine zp ?_
 refine zA (qV rfl wA) h fun u78 h=>?_;refine zp ?_;refine zs wA h fun I h=>?_;refine zp ?_;refine z4 ?_;iterate 2 refine zp ?_
 refine z2 ?_;refine AW.iff rfl (qu decide_eq_true_iff) h (fun h=>?_) (fun h=>?_)
 rotate_left
 .refine AW.skip ?_;refine qd ?_;exact⟨FL,h⟩
 refine z3 ?_;refine zp ?_;refine z2 ?_;refine AW.ret ?_;refine qj (qw (qj (qj (qw (qj ?_)))));exact bR1 results5 rfl ⟨_,rfl,h⟩
end G
namespace Zt
open Go SL G Pa Wi
variable{B:World}{ro I I':AH}{tag tag':Nat->Nat}
theorem adn.keepS{C:List Nat}{W:Nat}{s:Sto}(h:adn tag I W s)(k:StepS C ro tag I tag' I')(hC:∀ x∈DSt,x∉C:=by decide):adn tag' I' W s:=by
 obtain⟨T,Tt,Th,ms,h⟩:=h.in
 exact(h.keepS k hC).at
abbrev CTr:List Nat:=[0,1,12,30,31]
theorem arG{b W:Nat}{s:Sto}{Q:Option Addr->AH->Prop}(g:wZ ro)(h:adn tag I W s)(i:kO b s)(hb:b<=33554432)
  (hQ:∀ U tag' I',StepS CTr ro tag I tag' I'->qZ tag' I' 12 U (srt s.tree)->Q (some ⟨U,0,none⟩) I'):aaY B ro (some ⟨W,0,none⟩) I Q:=by
 obtain⟨T,Tt,Th,ms,h⟩:=h.in
 refine ahM fun hs=>?_
 unfold abh
 refine⟨_,rfl,some ⟨T,0,none⟩,(h.own.read hs).2.2 _ rfl 2 _ rfl,?_⟩
 obtain⟨M,bs,hA⟩:=h.tree
 have hlen:=i.tree.len
 refine als (by decide) (by decide) (by decide) (by decide) (by decide) hA i.tree.inv.small (by omega) fun se tag1 I1 st1 r1=>?_
 have hel:=amy i.tree (by omega)
 have hdec:=amu (i.tree.inv3 (by omega)) (by omega)
 refine alt (tag:=tag1) (r:=12) g (by decide) (by decide) (by decide) (by decide) (r1.read st1.sep) (by omega) (fun hn=>by rw[hdec]at hn;cases hn) fun st' hst' U tag2 I2 st2 h2=>?_
 rw[hdec]at hst'
 obtain rfl:=Option.some.inj hst'
 exact hQ U tag2 I2 ((st1.s (by simp)).trans (st2.mono (by decide))) h2
theorem arH:kO 0 (Sto.new [0]):=⟨aqR,⟨by simp[Sto.new],(fun p h=>by cases h),by simp[Sto.new]⟩,⟨by simp[Sto.new],(fun p h=>by cases h),by simp[Sto.new]⟩,⟨by simp[Sto.new],by simp[Sto.new]⟩,by simp[Sto.new]⟩
theorem am2{k:Str}{n:Nd}(h:St.new.lookup k=some n):k=[47]/\n=⟨0,0,0,0,[]⟩:=by
 unfold St.new at h
 rw[List.lookup_cons]at h
 by_cases c:k=[47]
 .subst c;simp at h;exact⟨rfl,h.symm⟩
 .have:(k == [47])=false:=by simpa using c
  rw[this]at h;cases h
theorem ao5:yA 0 (Sto.new [0]):=by
 refine⟨ati,(fun p h=>by cases h),fun k n x hn hp=>?_,fun n hn=>?_⟩
 .obtain⟨_,rfl⟩:=am2 hn;rfl
 .obtain⟨_,rfl⟩:=am2 hn;simp
structure am3(ro:AH)(y:zI×Sl×Sl):Prop where
 r:arZ ro y.2.1 y.2.2 y.1
 small:aiA y.1
 ops:y.1.ops.length<=1048576
 mem:y.1.members.length<=1048576
abbrev ao6(y:zI×Sl×Sl):List Value:=ahx y.1 y.2.1 y.2.2
theorem ao7{a0:Sl}{cs:List (zI×Sl×Sl)}{Q:Bool->AH->Prop}(g:wZ ro)(ha:SL.jm ro (fun _=>none) 13 a0 (cs.map ao6))(hl:cs.length<=1048576)(hok:∀ y∈cs,am3 ro y)(hQ:∀ I',Q true I'):ad0 B ro a0 I Q:=by
 refine ahP fun hs=>?_
 unfold abm
 refine qi (tag:=T7) 9 hs fun X0 tag0 I0 st0 r0=>?_
 refine aqg (tag:=tag0) (l:=[0]) (r0.read (st0 []).sep) (by decide) (by decide) fun W tagA IA stA hA=>?_
 rw[if_neg (by simp)]
 have hln:a0.len=cs.length:=by rw[ha.1,List.length_map]
 suffices∀m j s tag1 I1,j+m=cs.length->SL.Sep ro I1->adn tag1 I1 W s->kO j s->yA j s->lfpD (kZ B ro a0 (some ⟨W,0,none⟩) Q) (j:Int) I1 from
  this _ 0 _ tagA IA (Nat.zero_add _) stA.sep hA arH ao5
 intro m
 induction m with
 | zero=>
  intro j s tag1 I1 hj hs1 h1 i1 m1
  refine lfpD.intro ?_
  unfold kZ
  rw[if_neg (by omega)]
  unfold pt
  exact ao0 (tag:=tag1) g fun tag' I' _=>hQ I'
 | succ m ih=>
  intro j s tag1 I1 hj hs1 h1 i1 m1
  have hjl:j<cs.length:=by omega
  have ok:=hok cs[j] (List.getElem_mem hjl)
  obtain⟨q,hq,hc⟩:=(ha.keep (I:=I1)).at (j:=j) (x:=ao6 cs[j]) (by rw[List.getElem?_map,List.getElem?_eq_getElem hjl];rfl)
  obtain⟨⟨c,os,ms⟩,hy⟩:∃ y,cs[j]=y:=⟨_,rfl⟩
  rw[hy]at ok hc
  have ko:c.ops.length<=1048576:=ok.ops
  have kh:c.home.length<=1048576:=ok.small.home
  refine lfpD.intro ?_
  unfold kZ
  rw[if_pos (by omega)]
  refine⟨q,hq,by omega,by omega,c.kind,S c.home,c.session,c.req,c.nonce,c.lease,c.beats,c.ack,os,S c.path,c.watch,c.epoch,ms,by rw[Int.toNat_natCast];exact hc,?_⟩
  refine kl (tag:=tag1) 23 hs1 rfl (an5 c os ms) fun X tag2 I2 st2 x2=>?_
  refine⟨_,_,_,_,_,_,_,_,_,_,_,_,_,qx (x2.read (st2 []).sep) rfl,?_⟩
  have h2:=h1.keepS (qv (C:=[]) st2) (by simp)
  refine anx (tag:=tag2) ok.r (by omega) ok.mem fun os' ms' tag3 I3 st3 c3=>?_
  refine aqb (b:=j) g (h2.keepS st3) i1 (by omega) c3 ok.small ok.mem fun rs ds ns es tag4 I4 st4 h4 rep4=>?_
  have i4:=aoK (c:=c) i1 (by omega)
  have m4:=anv (c:=c) i1 (by omega) m1
  refine kl (tag:=tag4) 29 st4.sep rfl (agB (xS s c).2 rs ds ns es) fun Y tag5 I5 st5 y5=>?_
  have h5:=h4.keepS (qv (C:=[]) st5) (by simp)
  refine arG (tag:=tag5) g h5 i4 (by omega) fun U tag6 I6 st6 t6=>?_
  rw[if_neg (by simp)]
  have x6:=(((x2.keepS st3).keepS st4).keep (st5 [])).keepS st6
  have y6:=y5.keepS st6
  have h6:=h5.keepS st6
  have tI:=adC i4.tree
  have tlen:=tI.len
  have hne:parts (47::c.home)=none->(∃n,(xS s c).1.tree.lookup (47::c.home)=some n)->False:=fun hp ⟨n,hn⟩=>by
   obtain⟨ps,hps⟩:=i4.tree.inv.path _ _ hn
   rw[hp]at hps;cases hps
  have fin:∀ tag7 I7,StepS [0,9] ro tag6 I6 tag7 I7->kz B ro a0 X (some ⟨W,0,none⟩) (j:Int) (some ⟨U,0,none⟩) Q (lfpD (kZ B ro a0 (some ⟨W,0,none⟩) Q)) I7:=fun tag7 I7 st7=>by
   unfold kz
   refine⟨S c.home,((x6.keepS st7).read st7.sep).2.2 _ rfl 1 _ rfl,?_⟩
   refine qi (tag:=tag7) 9 st7.sep fun H tag8 I8 st8 r8=>?_
   obtain⟨M,bs,t8⟩:=(t6.keepS st7).keepS (qv (C:=[]) st8) (by simp) (by simp)
   refine amC (r:=12) (q0:=9) (hs:=[c.home]) g (by decide) (by decide) t8 tI.inv (by omega) r8 (by decide) (fun x hx=>by rw[List.mem_singleton.1 hx];omega) (by simp) fun tag9 I9 st9=>?_
   have hu:aao (srt (xS s c).1.tree) [c.home]=zh (xS s c).1.tree c.home:=by
    unfold aao
    simp only[List.foldl_cons,List.foldl_nil,Nat.zero_add]
    rw[aeL (vo _)]
   rw[hu]
   have hbnd:=m4.qt c.home
   unfold bnd at hbnd
   refine kl (tag:=tag9) 9 st9.sep rfl (by simp[qh]) fun Z taga Ia sta ra=>?_
   have ga:=(ra.read (sta []).sep).2.2 _ rfl
   refine⟨_,ga 0 _ rfl,?_⟩
   rw[if_neg (by omega)]
   refine⟨_,ga 1 _ rfl,?_⟩
   unfold xV
   rw[if_neg (by simp;omega),Pa.inc j (by omega)]
   have ha':=((h6.keepS st7).keepS (qv (C:=[]) st8) (by simp)).keepS (st9.trans ((qv (C:=[]) sta).mono (by simp)))
   exact ih (j+1) (xS s c).1 taga Ia (by omega) (sta []).sep ha' i4 m4
  refine⟨c.kind,(x6.read st6.sep).2.2 _ rfl 0 _ rfl,?_⟩
  by_cases e1:c.kind=1
  .rw[if_pos e1]
   refine⟨(xS s c).2.code,(y6.read st6.sep).2.2 _ rfl 0 _ rfl,?_⟩
   unfold kC
   by_cases e2:(xS s c).2.code=0
   .rw[if_pos (by simp[e2])]
    have hn:∃ n,(xS s c).1.tree.lookup (47::c.home)=some n:=by
     have:=(alG (c:=c) i1 (by omega) m1).2
     unfold xS at e2⊢
     rw[if_pos e1]at e2⊢
     exact this e2
    refine⟨S c.home,(x6.read st6.sep).2.2 _ rfl 1 _ rfl,?_,?_⟩
    .rw[aeW]
     show 1+_<=_
     omega
    obtain⟨M,bs,hT⟩:=t6
    have hll:(srt (xS s c).1.tree).lookup (L ((⟨#[47]⟩:ByteArray)++S c.home))=(xS s c).1.tree.lookup (47::c.home):=by rw[agD,ahw i4.tree.inv.keys]
    refine agi (tag:=tag6) (r:=12) g (by decide) (by decide) (by decide) hT (fun p n hp=>tI.inv.data _ _ hp) (fun hp=>?_) (fun ps _ hp=>?_) fun n _ ds' tag7 I7 st7 _=>?_
    .rw[agD]at hp;exact(hne hp hn).elim
    .rw[hll]at hp;obtain⟨n,hn⟩:=hn;rw[hn]at hp;cases hp
    refine kl (tag:=tag7) 9 st7.sep rfl (by simp[qh]) fun Z tag8 I8 st8 r8=>?_
    rw[if_neg (by simp)]
    exact fin tag8 I8 ((st7.s (by simp)).trans (qv st8))
   .rw[if_neg (by simp[e2])]
    exact fin tag6 I6 (StepS.refl st6.sep)
  .rw[if_neg e1]
   unfold kC
   rw[if_neg (by simp)]
   exact fin tag6 I6 (StepS.refl st6.sep)
end Zt
namespace SL
open Go
def zz(n:Nat)(P:Program)(W:World)(H:Type)(enc:TypeId×Value->H)(t:TypeId)(cs:List Value):Prop:= ∃fuel d ps,DataW.trod enc P W 0 (fun _=>true) true fuel t cs=some (d,ps)/\(d.weights P t).all (· <=reachBytes)=true/\Rows.uptoBulk d<=n
variable{n:Nat}{P:Program}{W:World}{H:Type}{enc:TypeId×Value->H}
theorem zz.arg{t:TypeId}{cs:List Value}(h:zz n P W H enc t cs):Arg P W H enc t cs:=by
 obtain⟨f,d,ps,h1,h2,_⟩:=h
 exact⟨f,d,ps,h1,h2⟩
theorem zz.slice{t e:TypeId}{a:Option Addr}{len cap:Nat}(ht:P.underlying t=some (.slice e))(h:zz n P W H enc t [.slice a len cap]):
  (a=none/\len=0/\cap=0)\/∃ x,a=some x/\len<=cap/\len<=n/\∀ j,j<len->∃ cs,cs.length=P.cellsOf e/\(∀i,i<P.cellsOf e->W.cell? ((x.add (j*P.cellsOf e)).add i)=cs[i]?)/\zz n P W H enc e cs:=by
 obtain⟨fuel,d,ps,hf,hw,hb⟩:=h
 rcases Go.Deep.open_slice ht hf with⟨hcs,_⟩ | ⟨x,l,c,m,k,D,Pl,hcs,_,hl,_,hm,hx,hel⟩
 .simp at hcs;exact .inl hcs
 .simp at hcs
  obtain⟨rfl,rfl,rfl⟩:=hcs
  simp only[Prod.mk.injEq]at hx
  rw[hx.1]at hw hb
  rw[DataW.weights,ht]at hw
  simp only[Rows.uptoBulk]at hb
  simp only[List.all_cons,List.all_append,Bool.and_eq_true,decide_eq_true_eq,List.length_map,List.length_range]at hw
  refine .inr ⟨x,rfl,hl,?_,fun j hj=>?_⟩
  .have:=am4 ((List.range len).map D)
   simp at this
   omega
  .obtain⟨cs,h1,h2⟩:=hel j (by simp at hm;omega)
   obtain⟨_,h3,h4⟩:=World.cells?_some h1
   have:=afN (l:=(List.range len).map D) (i:=j) (d:=D j) (by rw[List.getElem?_map,List.getElem?_range hj];rfl)
   exact⟨cs,h3,h4,k,D j,Pl j,h2,aky (List.mem_map.2 ⟨j,List.mem_range.2 hj,rfl⟩) hw.2.1,by omega⟩
theorem zz.struct{t:TypeId}{fs:Array Field}{cs:List Value}(ht:P.underlying t=some (.struct fs))(h:zz n P W H enc t cs):
  cs.length=P.cellsOf t/\∀ (i:Nat) (f:Field),fs.toList[i]?=some f->zz n P W H enc f.type ((cs.drop f.offset).take (P.cellsOf f.type)):=by
 obtain⟨fuel,d,ps,hf,hw,hb⟩:=h
 cases fuel with
 | zero=>cases hf
 | succ m=>
  unfold DataW.trod at hf
  rw[ht]at hf
  simp only at hf
  split at hf
  .rename_i hl
   refine⟨hl,fun i f hi=>?_⟩
   obtain⟨r,hr,hd⟩:=Option.map_eq_some_iff.1 hf
   have h1:=mapM_some_get hr i f hi
   have h2:=mapM_some_length hr
   have hil:i<fs.toList.length:=by
    rcases Nat.lt_or_ge i fs.toList.length with h' | h'
    .exact h'
    .rw[List.getElem?_eq_none h']at hi;cases hi
   rw[List.getElem?_eq_getElem (by omega)]at h1
   simp only[Prod.mk.injEq]at hd
   rw[<-hd.1]at hb
   simp only[Rows.uptoBulk]at hb
   rw[<-hd.1,DataW.weights,ht]at hw
   have:=afN (l:=r.map (·.1)) (i:=i) (d:=r[i].1) (by rw[List.getElem?_map,List.getElem?_eq_getElem (by omega)];rfl)
   refine⟨m,r[i].1,r[i].2,h1,aft (ts:=fs.toList.map (·.type)) (i:=i) (by rw[List.getElem?_map,hi];rfl) (by rw[List.getElem?_map,List.getElem?_eq_getElem (by omega)];rfl) hw,by omega⟩
  .cases hf
theorem zz.field{t t':TypeId}{o:Nat}{L:List (TypeId×Nat)}{cs:List Value}(hu:∃ fs,P.underlying t=some (.struct fs)/\fs.toList.map (fun f:Field=>(f.type,f.offset))=L)(h:zz n P W H enc t cs)(i:Nat)(hi:L[i]?=some (t',o)):zz n P W H enc t' ((cs.drop o).take (P.cellsOf t')):=by
 obtain⟨fs,hu,hfs⟩:=hu
 rw[<-hfs,List.getElem?_map]at hi
 obtain⟨f,hf,e⟩:=Option.map_eq_some_iff.1 hi
 have:=(h.struct hu).2 i f hf
 simp only[Prod.mk.injEq]at e
 rwa [e.1,e.2]at this
theorem zz.i64{t:TypeId}{u:Value}(ht:P.underlying t=some (.int .i64))(h:zz n P W H enc t [u]):∃ x:Int,u= .int .i64 x/\ -9223372036854775808<=x:=by
 obtain⟨fuel,d,ps,hf,_⟩:=h
 obtain⟨x,h,h2,_⟩:=aqq ht hf
 exact⟨x,h,h2⟩
theorem zz.text{t:TypeId}{u:Value}(ht:P.underlying t=some .string)(h:zz n P W H enc t [u]):∃ s:ByteArray,u= .string s/\s.size<=n:=by
 obtain⟨s,rfl,_⟩:=Arg.str ht h.arg
 refine⟨s,rfl,?_⟩
 obtain⟨fuel,d,ps,hf,_,hb⟩:=h
 cases fuel with
 | zero=>cases hf
 | succ m=>
  unfold DataW.trod at hf
  rw[ht]at hf
  simp at hf
  obtain⟨_,rfl,_⟩:=hf
  simp only[Rows.uptoBulk]at hb
  simp at hb
  omega
theorem zz.isSlice{t e:TypeId}{v:Value}(ht:P.underlying t=some (.slice e))(h:zz n P W H enc t [v]):∃ s:Sl,v=Sl.v s:=by
 obtain⟨fuel,d,ps,hf,_⟩:=h
 rcases Go.Deep.open_slice ht hf with⟨e,_⟩ | ⟨x,l,c,_,_,_,_,e,_⟩
 .simp at e;exact⟨⟨none,0,0⟩,e⟩
 .simp at e;exact⟨⟨some x,l,c⟩,e⟩
theorem zz.rows{α:Type}[Inhabited α]{t e:TypeId}{w:Nat}{s:Sl}{V:α->List Value}{G:α->Prop}(ht:P.underlying t=some (.slice e))(hw:P.cellsOf e=w)(hV:∀ y,(V y).length=w)(hd:∀ cs,zz n P W H enc e cs->cs.length=w->∃ y,cs=V y/\G y)(h:zz n P W H enc t [Sl.v s]):
  ∃l:List α,l.length<=n/\jm (all W) (fun _=>none) w s (l.map V)/\(∀y∈l,G y)/\s.len<=s.cap:=by
 obtain⟨a,len,cap⟩:=s
 rcases zz.slice ht h with⟨rfl,rfl,rfl⟩ | ⟨x,rfl,hl,hb,hel⟩
 .exact⟨[],by simp,⟨rfl,fun _=>rfl,(fun _ h=>by cases h),fun p h=>by cases h⟩,(fun _ h=>by cases h),Nat.le_refl _⟩
 .rw[hw]at hel
  have key:∀ j:Nat,∃y:α,j<len->(∀i,i<w->W.cell? ((x.add (j*w)).add i)=(V y)[i]?)/\G y:=fun j=>by
   by_cases hj:j<len
   .obtain⟨cs,h1,h2,h3⟩:=hel j hj
    obtain⟨y,rfl,hy⟩:=hd cs h3 h1
    exact⟨y,fun _=>⟨h2,hy⟩⟩
   .exact⟨default,fun h=>absurd h hj⟩
  obtain⟨f,hf⟩:=Classical.axiomOfChoice key
  have hlen:((List.range len).map f).length=len:=by simp
  refine⟨(List.range len).map f,by rw[hlen];exact hb,⟨by simp,(fun h=>by cases h),?_,fun p hp i v hv=>?_⟩,fun y hy=>?_,hl⟩
  .intro z hz
   obtain⟨y,_,rfl⟩:=List.mem_map.1 hz
   exact hV y
  .cases hp
   have hwid:∀ z∈((List.range len).map f).map V,z.length=w:=fun z hz=>by
    obtain⟨y,_,rfl⟩:=List.mem_map.1 hz
    exact hV y
   have hfl:=uc hwid
   rw[List.length_map,hlen]at hfl
   have hi:i<len*w:=by
    rcases Nat.lt_or_ge i (len*w)with h | h
    .exact h
    .rw[List.getElem?_eq_none (by omega)]at hv;cases hv
   have hw0:0<w:=by
    rcases Nat.eq_zero_or_pos w with h | h
    .rw[h]at hi;simp at hi
    .exact h
   have hdm:=Nat.div_add_mod i w
   have hj:i / w<len:=Nat.div_lt_of_lt_mul (by rw[Nat.mul_comm];exact hi)
   have hm:=Nat.mod_lt i hw0
   have he:(((List.range len).map f).map V)[i / w]?=some (V (f (i / w))):=by
    rw[List.getElem?_map,List.getElem?_map,List.getElem?_range hj];rfl
   have hg:=ajs hwid he hm
   rw[Nat.mul_comm]at hdm
   rw[hdm,hv]at hg
   have:=(hf _ hj).1 _ hm
   rw[adE,hdm,<-hg]at this
   exact aqo _ this
  .obtain⟨j,hj,rfl⟩:=List.mem_map.1 hy
   exact(hf j (List.mem_range.1 hj)).2
theorem arI{α:Type}(f:α->Value)(l:List α):(l.map fun y=>[f y]).flatten=l.map f:=by
 induction l with
 | nil=>rfl
 | cons a l ih=>rw[List.map_cons,List.flatten_cons,ih];rfl
theorem jm.one{s:Sl}{α:Type}{f:α->Value}{l:List α}{ro I:AH}(h:jm ro I 1 s (l.map fun y=>[f y])):wx ro I s (l.map f):=by
 refine⟨by rw[h.1];simp,fun hn=>?_,fun p hp i v hv=>h.2.2.2 p hp i v (by rw[arI];exact hv)⟩
 have:=h.2.1 hn
 simpa using this
end SL
namespace Zt
open Go SL G Pa Wi
theorem abv:∃ fs,prog.underlying 57=some (.struct fs)/\fs.toList.map (fun f:Field=>(f.type,f.offset))=[(3,0),(9,1),(3,2),(3,3),(3,4),(3,5),(3,6),(3,7),(54,8),(9,9),(4,10),(3,11),(55,12)]:=⟨_,underlying57,rfl⟩
theorem ak5:∃ fs,prog.underlying 72=some (.struct fs)/\fs.toList.map (fun f:Field=>(f.type,f.offset))=[(3,0),(9,1),(24,2),(3,3),(4,4),(4,5)]:=⟨_,underlying72,rfl⟩
theorem at3:prog.cellsOf 57=13:=by kernel_rfl
theorem aup:prog.cellsOf 72=6:=by kernel_rfl
theorem kI:prog.cellsOf 3=1:=by kernel_rfl
theorem kB:prog.cellsOf 4=1:=by kernel_rfl
theorem kU:prog.cellsOf 5=1:=by kernel_rfl
theorem kS9:prog.cellsOf 9=1:=by kernel_rfl
theorem kD:prog.cellsOf 24=1:=by kernel_rfl
theorem kOs:prog.cellsOf 54=1:=by kernel_rfl
theorem kIs:prog.cellsOf 55=1:=by kernel_rfl
theorem uOs:prog.underlying 54=some (.slice 72):=by kernel_rfl
theorem uDs:prog.underlying 24=some (.slice 5):=by kernel_rfl
theorem uU:prog.underlying 5=some (.int .u8):=by kernel_rfl
theorem uBo:prog.underlying 4=some .bool:=by kernel_rfl
theorem uCs:prog.underlying 50=some (.slice 57):=by kernel_rfl
variable{n:Nat}{W:World}{H:Type}{enc:TypeId×Value->H}
theorem at4{s:Sl}(h:zz n prog W H enc 24 [Sl.v s]):∃ d:Str,d.length<=n/\SL.wx (all W) (fun _=>none) s (d.map vU):=by
 obtain⟨l,h1,h2,_,_⟩:=zz.rows (α:=UInt8) (V:=fun c=>[vU c]) (G:=fun _=>True) uDs kU (fun _=>rfl) (fun cs hc hl=>by
  match cs,hl with
  | [u],_=>
   obtain⟨c,rfl⟩:=Arg.u8 uU hc.arg
   exact⟨c,rfl,trivial⟩) h
 exact⟨l,h1,h2.one⟩
theorem at5{s:Sl}(h:zz n prog W H enc 55 [Sl.v s]):∃ d:List Int,d.length<=n/\SL.wx (all W) (fun _=>none) s (d.map vI):=by
 obtain⟨l,h1,h2,_,_⟩:=zz.rows (α:=Int) (V:=fun c=>[vI c]) (G:=fun _=>True) aoQ kI (fun _=>rfl) (fun cs hc hl=>by
  match cs,hl with
  | [u],_=>
   obtain⟨c,rfl,_⟩:=zz.i64 u3' hc
   exact⟨c,rfl,trivial⟩) h
 exact⟨l,h1,h2.one⟩
instance:Inhabited MOp:=⟨⟨0,[],[],0,false,false⟩⟩
instance:Inhabited Sl:=⟨⟨none,0,0⟩⟩
theorem auq{s:Sl}(h:zz 1048576 prog W H enc 54 [Sl.v s]):∃ ops:List MOp,ops.length<=1048576/\aoE (all W) s ops/\∀ o∈ops,o.path.length<=1048576/\o.data.length<=1048576:=by
 obtain⟨l,h1,h2,h3,_⟩:=zz.rows (α:=MOp×Sl) (V:=fun y=>opV y.1 y.2) (G:=fun y=>(y.1.path.length<=1048576/\y.1.data.length<=1048576)/\SL.wx (all W) (fun _=>none) y.2 (y.1.data.map vU)) uOs aup (fun _=>rfl) (fun cs hc hl=>by
  match cs,hl with
  | [v0,v1,v2,v3,v4,v5],_=>
   have a0:=hc.field ak5 0 rfl
   have a1:=hc.field ak5 1 rfl
   have a2:=hc.field ak5 2 rfl
   have a3:=hc.field ak5 3 rfl
   have a4:=hc.field ak5 4 rfl
   have a5:=hc.field ak5 5 rfl
   rw[kI]at a0 a3
   rw[kS9]at a1
   rw[kD]at a2
   rw[kB]at a4 a5
   obtain⟨x0,rfl,_⟩:=zz.i64 u3' a0
   obtain⟨x1,rfl,h1⟩:=zz.text u9 a1
   obtain⟨ds,rfl⟩:=zz.isSlice uDs a2
   obtain⟨d,hd,rd⟩:=at4 a2
   obtain⟨x3,rfl,_⟩:=zz.i64 u3' a3
   obtain⟨x4,rfl⟩:=Arg.bool uBo a4.arg
   obtain⟨x5,rfl⟩:=Arg.bool uBo a5.arg
   exact⟨(⟨x0,L x1,d,x3,x4,x5⟩,ds),by simp[opV,Pa.vS],⟨by rw[km];exact h1,hd⟩,rd⟩) h
 refine⟨l.map (·.1),by simpa using h1,⟨by rw[h2.1];simp,fun j o ho=>?_⟩,fun o ho=>?_⟩
 .rw[List.getElem?_map]at ho
  obtain⟨y,hy,rfl⟩:=Option.map_eq_some_iff.1 ho
  have hm:=h3 y (List.mem_of_getElem? hy)
  obtain⟨q,hq,_⟩:=h2.at (j:=j) (x:=opV y.1 y.2) (by rw[List.getElem?_map,hy];rfl)
  refine⟨q,y.2,hq,fun I=>?_,hm.2,by have:=hm.1.2;omega⟩
  obtain⟨q',hq',hc⟩:=(h2.keep (I:=I)).at (j:=j) (x:=opV y.1 y.2) (by rw[List.getElem?_map,hy];rfl)
  rw[hq]at hq';cases hq'
  exact hc
 .obtain⟨y,hy,rfl⟩:=List.mem_map.1 ho
  exact(h3 y hy).1
instance:Inhabited zI:=⟨zI.zero⟩
theorem atj{s:Sl}(h:zz 1048576 prog W H enc 50 [Sl.v s]):∃ cs:List (zI×Sl×Sl),cs.length<=1048576/\SL.jm (all W) (fun _=>none) 13 s (cs.map ao6)/\∀ y∈cs,am3 (all W) y:=by
 obtain⟨l,h1,h2,h3,_⟩:=zz.rows (α:=zI×Sl×Sl) (V:=ao6) (G:=am3 (all W)) uCs at3 (fun _=>rfl) (fun cs hc hl=>by
  match cs,hl with
  | [v0,v1,v2,v3,v4,v5,v6,v7,v8,v9,v10,v11,v12],_=>
   have a0:=hc.field abv 0 rfl
   have a1:=hc.field abv 1 rfl
   have a2:=hc.field abv 2 rfl
   have a3:=hc.field abv 3 rfl
   have a4:=hc.field abv 4 rfl
   have a5:=hc.field abv 5 rfl
   have a6:=hc.field abv 6 rfl
   have a7:=hc.field abv 7 rfl
   have a8:=hc.field abv 8 rfl
   have a9:=hc.field abv 9 rfl
   have a10:=hc.field abv 10 rfl
   have a11:=hc.field abv 11 rfl
   have a12:=hc.field abv 12 rfl
   rw[kI]at a0 a2 a3 a4 a5 a6 a7 a11
   rw[kS9]at a1 a9
   rw[kOs]at a8
   rw[kB]at a10
   rw[kIs]at a12
   obtain⟨x0,rfl,_⟩:=zz.i64 u3' a0
   obtain⟨x1,rfl,b1⟩:=zz.text u9 a1
   obtain⟨x2,rfl,_⟩:=zz.i64 u3' a2
   obtain⟨x3,rfl,_⟩:=zz.i64 u3' a3
   obtain⟨x4,rfl,_⟩:=zz.i64 u3' a4
   obtain⟨x5,rfl,_⟩:=zz.i64 u3' a5
   obtain⟨x6,rfl,_⟩:=zz.i64 u3' a6
   obtain⟨x7,rfl,_⟩:=zz.i64 u3' a7
   obtain⟨os,rfl⟩:=zz.isSlice uOs a8
   obtain⟨ops,lo,ro,bo⟩:=auq a8
   obtain⟨x9,rfl,b9⟩:=zz.text u9 a9
   obtain⟨x10,rfl⟩:=Arg.bool uBo a10.arg
   obtain⟨x11,rfl,_⟩:=zz.i64 u3' a11
   obtain⟨ms,rfl⟩:=zz.isSlice aoQ a12
   obtain⟨mm,lm,rm⟩:=at5 a12
   exact⟨(⟨x0,L x1,x2,x3,x4,x5,x6,x7,ops,L x9,x10,x11,mm⟩,os,ms),by simp,⟨⟨ro,rm⟩,⟨by rw[km];exact b1,by rw[km];exact b9,bo⟩,lo,lm⟩⟩) h
 exact⟨l,h1,h2,h3⟩
end Zt
namespace Zt
open Go Go.ChangeShapes Go.WideShapes Go.ChangeAt Go.RowKit
theorem ao8:(Rows.storeQuotaUptoRow.inPlace == prog.inPlace 5)=true:=by kernel_rfl
theorem atk:(Rows.storeQuotaUptoRow.unfollowed == prog.unfollowed 5)=true:=by kernel_rfl
theorem atl:(Rows.storeQuotaUptoRow.recurses == prog.recurses 5)=true:=by kernel_rfl
theorem arJ:(Rows.storeQuotaUptoRow.named == prog.varsNamed 5)=true:=by kernel_rfl
theorem asM:laidOutB prog=true:=anI
theorem aqh:joinedFacts prog 5 f5 (Rows.OpenSpec.upto Rows.storeQuotaSpec).bare Rows.storeQuotaUptoRow=true:=by
 unfold joinedFacts
 rw[ao8,atk,atl,arJ,asM]
 simp only[Bool.and_eq_true]
 repeat' refine And.intro ?_ ?_
 all_goals first | exact trivial | (as_aux_lemma=>kernel_rfl)