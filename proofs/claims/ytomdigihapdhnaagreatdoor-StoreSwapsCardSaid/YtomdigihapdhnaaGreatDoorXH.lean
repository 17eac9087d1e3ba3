import Derived.Test.YtomdigihapdhnaaGreatDoorXG
set_option linter.all false
set_option maxRecDepth 99999
set_option maxHeartbeats 0
open Go.IntKind(i64)
open Go.Proofs.Tryz
namespace Go.Proofs.YtomdigihapdhnaaGreatDoor
namespace Zt
open Go SL G Pa
variable{B:World}{ro I I':AH}{tag tag':Nat->Nat}
variable{p:ByteArray}{v:Int}{Q:Int->AH->Prop}{bs:List Nat}{M T i r:Nat}{n:Nd}{st:St}{d q u:Str}
def yn:St->Str->St
 | [],_=>[]
 | (k',n)::r,k=>if k=k' then r else(k',n)::yn r k
def yy(n:Nd):Nd:={n with kids:=i64.wrap (n.kids - 1)}
def wL(st:St)(p:Str)(v:Int):St×Int:=
 if p=[47]\/parts p=none then(st,20)
 else match st.lookup p with
  | none=>(st,70)
  | some n=>if v≠ -1/\v≠n.ver then(st,72)else if 0<n.kids then(st,73)
   else match qB p with
    | none=>(st,20)
    | some u=>(yn (wi st u yy) p,0)
def pt(d:Str)(n:Nd):Nd:={n with ver:=i64.wrap (n.ver+1),data:=d}
def vW(st:St)(p d:Str)(v:Int):St×Int×Int:=
 if p=[47]\/parts p=none then(st,0,20)
 else if 256<d.length then(st,0,75)
 else match st.lookup p with
  | none=>(st,0,70)
  | some n=>if v≠ -1/\v≠n.ver then(st,0,72)else(wi st p (pt d),i64.wrap (n.ver+1),0)
theorem aqw:∀ (st:St) (bs:List Nat) (i b:Nat) (q:Str) (n:Nd),bs.length=st.length->(st.map (·.1)).Nodup->bs[i]?=some b->st[i]?=some (q,n)->
  yn st q=st.eraseIdx i/\aeW (kv st bs) q=kv (st.eraseIdx i) (bs.eraseIdx i):=by
 intro st
 induction st with
 | nil=>intro bs i b q n _ _ _ h;cases h
 | cons p st ih=>
  intro bs i b q n hl hk hb hp
  cases bs with
  | nil=>simp at hl
  | cons c bs=>
   obtain⟨p,m⟩:=p
   rw[List.map_cons,List.nodup_cons]at hk
   cases i with
   | zero=>
    cases hp
    exact⟨by simp[yn],by simp[kv,aeW]⟩
   | succ i=>
    simp only[List.getElem?_cons_succ]at hb hp
    have hne:q≠p:=fun e=>hk.1 (by rw[<-e];exact List.mem_map.2 ⟨_,List.mem_of_getElem? hp,rfl⟩)
    obtain⟨h1,h2⟩:=ih bs i b q n (by simpa using hl) hk.2 hb hp
    refine⟨by simp[yn,hne,h1],?_⟩
    simp only[List.eraseIdx_cons_succ]
    unfold kv aeW
    rw[if_neg hne,h2]
theorem aml{α:Type}(l:List α)(i j:Nat):(l.eraseIdx i)[j]?=if j<i then l[j]? else l[j+1]?:=by
 rw[List.getElem?_eraseIdx]
theorem qZ.rem{b:Nat}(h:qZ tag I r T M bs st)(hr:r<64)(hr6:r≠6)(hb:bs[i]?=some b)(hp:st[i]?=some (q,n))(k:qe [r+64] ro tag I tag' I')
  (hm:zO tag' I' (r+64) M (aeW (kv st bs) q)):qZ tag' I' r T M (bs.eraseIdx i) (yn st q):=by
 obtain⟨e1,e2⟩:=aqw st bs i b q n h.len h.keys hb hp
 rw[e1]
 rw[e2]at hm
 refine⟨List.Nodup.sublist ((List.eraseIdx_sublist ..).map _) h.keys,?_,List.Nodup.sublist (List.eraseIdx_sublist ..) h.nd,h.cell.keep k,hm,fun j c p hc hp'=>?_⟩
 .rw[List.length_eraseIdx,List.length_eraseIdx,h.len]
 .rw[aml]at hc hp'
  by_cases hj:j<i
  .rw[if_pos hj]at hc hp'
   exact(h.nodes j c p hc hp').keep k (by simp;omega) (by simp)
  .rw[if_neg hj]at hc hp'
   exact(h.nodes (j+1) c p hc hp').keep k (by simp;omega) (by simp)
theorem aqx{f:Nd->Nd}(h:st[i]?=some (q,n))(hne:q≠u):(wi st u f)[i]?=some (q,n):=by
 unfold wi
 rw[List.getElem?_map,h]
 simp[hne]
theorem ad4{p:Str}(h:qB p=some u):p≠u:=by
 unfold qB at h
 cases hp:parts p with
 | none=>rw[hp]at h;cases h
 | some ps=>
  rw[hp]at h
  simp only at h
  split at h
  .cases h
  .rename_i hn
   cases h
   obtain⟨hl,hg⟩:=wd.1 hp
   intro e
   have:=aoY hg hg.up (by rw[<-hl];exact e)
   have h1:=congrArg List.length this
   have h2:=List.length_pos_iff.2 hn
   simp at h1;omega
theorem ai2{p:Str}{ps:List Str}(h:parts p=some ps)(hne:p≠[47]):∃ u,qB p=some u:=by
 unfold qB
 rw[h]
 simp only
 rw[if_neg]
 .exact⟨_,rfl⟩
 .intro e;obtain⟨hl,_⟩:=wd.1 h;exact hne (by rw[hl,e];try rfl)
theorem ajY(g:wV ro)(hr:r<64)(hr6:r≠6)(hr0:r≠0)(hA:qZ tag I r T M bs st)
  (hup:∀ u n,qB (L p)=some u->st.lookup (L p)=some n->∃ m,st.lookup u=some m)
  (hQ:∀ tag' I' bs',zF r ro tag I tag' I'->qZ tag' I' r T M bs' (wL st (L p) v).1->Q (wL st (L p) v).2 I'):jo B ro (some ⟨T,0,none⟩) p v I Q:=by
 refine agP fun hs=>?_
 unfold aaC
 have same:∀ e:Int,wL st (L p) v=(st,e)->Q e I:=fun e he=>by
  have:=hQ tag I bs (zF.refl hs) (by rw[he];exact hA)
  rw[he]at this;exact this
 have hgood:L p≠[47]->∀ ps,parts (L p)=some ps->¬ (L p=[47]\/parts (L p)=none):=fun h1 ps h2 h3=>by
  rcases h3 with h3 | h3
  .exact h1 h3
  .rw[h2]at h3;cases h3
 refine ald g hA hs (fun hb=>?_) (fun hne ps hps hl=>?_) (fun hne ps n hps hl hv1 hv2=>?_) (fun hne ps i b n hps hb hp hl hv=>?_)
 .rw[if_pos (by decide)]
  exact same 20 (by unfold wL;rw[if_pos hb])
 .rw[if_pos (by decide)]
  exact same 70 (by unfold wL;rw[if_neg (hgood hne ps hps),hl])
 .rw[if_pos (by decide)]
  exact same 72 (by unfold wL;rw[if_neg (hgood hne ps hps),hl];simp only;rw[if_pos ⟨hv1,hv2⟩])
 .rw[if_neg (by decide)]
  have hre:wL st (L p) v=if 0<n.kids then(st,(73:Int))else match qB (L p)with
    | none=>(st,(20:Int))
    | some u=>(yn (wi st u yy) (L p),(0:Int)):=by
   unfold wL;rw[if_neg (hgood hne ps hps),hl];simp only;rw[if_neg (by omega)];all_goals (cases qB (L p)<;>rfl)
  obtain⟨s,hn,hd⟩:=hA.nodes i b _ hb hp
  obtain⟨q,hq,hg⟩:=hn.ptr hs (by simp)
  cases hq
  refine⟨_,rfl,n.kids,hg 3 _ rfl,?_⟩
  by_cases h1:0<n.kids
  .rw[if_pos h1]
   exact same 73 (by rw[hre,if_pos h1])
  .rw[if_neg h1]
   rw[if_neg h1]at hre
   refine ad3 g (fun hnone=>?_) (fun u hu=>?_)
   .obtain⟨u,hu⟩:=ai2 hps hne
    rw[hu]at hnone;cases hnone
   .rw[hu]at hre
    simp only at hre
    obtain⟨m,hm⟩:=hup u n hu hl
    refine⟨_,rfl,_,Row.cell1 hA.cell hs,?_⟩
    refine jv hA.map hs u126 u9 agR ?_
    rcases aa9 st bs u hA.len with⟨a,e⟩ | ⟨j,c,m',c1,c2,c3,e⟩
    .rw[hm]at a;cases a
    .rw[e]
     refine⟨some ⟨c,0,none⟩,rfl,?_⟩
     obtain⟨s2,hn2,hd2⟩:=hA.nodes j c _ c1 c2
     obtain⟨q2,hq2,hg2⟩:=hn2.ptr hs (by simp)
     cases hq2
     refine⟨_,rfl,m'.kids,hg2 3 _ rfl,_,rfl,?_⟩
     refine hn2.st (i:=3) hs rfl (by simp) rfl fun I1 st1 r1=>?_
     have hA1:=hA.write (n':=yy m') hr hr6 c1 c2 st1 ⟨s2,r1,hd2.keep st1 (by simp;omega)⟩
     rw[<-agQ hA.keys c2 yy]at hA1
     refine⟨_,rfl,_,Row.cell1 hA1.cell st1.sep,?_⟩
     rw[<-S_L p]
     refine aks hA1.map st1.sep u126 u9 fun I2 st2 m2=>⟨rfl,?_⟩
     have hA2:=hA1.rem hr hr6 hb (aqx hp (ad4 hu)) st2 m2
     have hres:=hQ tag I2 _ ((st1.c (by simp;omega)).trans (st2.c (by simp;omega))) (by rw[hre];exact hA2)
     rw[hre]at hres
     exact hres
theorem ao9(g:wV ro)(hr:r<64)(hr6:r≠6)(hr0:r≠0)(h:wa tag I r T st)
  (hup:∀ u n,qB (L p)=some u->st.lookup (L p)=some n->∃ m,st.lookup u=some m)
  (hQ:∀ tag' I',zF r ro tag I tag' I'->wa tag' I' r T (wL st (L p) v).1->Q (wL st (L p) v).2 I'):jo B ro (some ⟨T,0,none⟩) p v I Q:=by
 obtain⟨M,bs,hA⟩:=h
 exact ajY g hr hr6 hr0 hA hup fun tag' I' bs' st h'=>hQ tag' I' st ⟨M,bs',h'⟩
theorem asU{s:Sl}{Q:Int->Int->AH->Prop}(g:wV ro)(hr:r<64)(hr6:r≠6)(hr0:r≠0)(h:wa tag I r T st)(hd:SL.zw ro I s (d.map vU))(hdl:d.length<4611686018427387904)
  (hQ:∀ tag' I',zF r ro tag I tag' I'->wa tag' I' r T (vW st (L p) d v).1->Q (vW st (L p) d v).2.1 (vW st (L p) d v).2.2 I'):acr B ro (some ⟨T,0,none⟩) p s v I Q:=by
 refine aiM fun hs=>?_
 unfold acx
 have hsl:s.len=d.length:=by rw[hd.1,List.length_map]
 have same:∀ e:Int,vW st (L p) d v=(st,0,e)->Q 0 e I:=fun e he=>by
  have:=hQ tag I (zF.refl hs) (by rw[he];exact h)
  rw[he]at this;exact this
 by_cases h0:p=⟨#[47]⟩
 .rw[if_pos h0]
  unfold xU
  rw[if_pos rfl]
  exact same 20 (by unfold vW;rw[if_pos (.inl (by rw[h0];try rfl))])
 .rw[if_neg h0]
  have hne:L p≠[47]:=fun h=>h0 (pL h)
  refine ug g ?_
  unfold xU
  by_cases h1:Pa.chk (L p)=0
  .rw[if_neg (by simpa using h1)]
   obtain⟨ps,hps⟩:=vq.1 h1
   have hgood:¬ (L p=[47]\/parts (L p)=none):=fun h3=>by
    rcases h3 with h3 | h3
    .exact hne h3
    .rw[hps]at h3;cases h3
   by_cases h2:256<(s.len:Int)
   .rw[if_pos h2]
    exact same 75 (by unfold vW;rw[if_neg hgood,if_pos (by omega)])
   .rw[if_neg h2]
    have h2':¬ 256<d.length:=by omega
    obtain⟨M,bs,hA⟩:=h
    refine ald g hA hs (fun hb=>absurd hb hgood) (fun _ _ _ hl=>?_) (fun _ _ n _ hl hv1 hv2=>?_) (fun _ _ i b n _ hb hp hl hv=>?_)
    .rw[if_pos (by decide)]
     exact same 70 (by unfold vW;rw[if_neg hgood,if_neg h2',hl])
    .rw[if_pos (by decide)]
     exact same 72 (by unfold vW;rw[if_neg hgood,if_neg h2',hl];simp only;rw[if_pos ⟨hv1,hv2⟩])
    .rw[if_neg (by decide)]
     have hre:vW st (L p) d v=(wi st (L p) (pt d),i64.wrap (n.ver+1),0):=by
      unfold vW;rw[if_neg hgood,if_neg h2',hl];simp only;rw[if_neg (by omega)]
     refine aba (tag:=tag) hd hs (by simp;omega) (by simp[qh]) fun s' tag1 I1 st1 r1=>?_
     have hA1:=hA.keep (st1 [])
     have hs1:=(st1 []).sep
     obtain⟨ds,hn,hdd⟩:=hA1.nodes i b _ hb hp
     refine⟨_,rfl,?_⟩
     refine hn.st (i:=4) hs1 rfl (by simp) rfl fun I2 st2 r2=>?_
     obtain⟨q,hq,hg⟩:=r2.ptr st2.sep (by simp)
     cases hq
     refine⟨_,rfl,n.ver,hg 0 _ rfl,_,rfl,?_⟩
     refine r2.st (i:=0) st2.sep rfl (by simp) rfl fun I3 st3 r3=>?_
     obtain⟨q3,hq3,hg3⟩:=r3.ptr st3.sep (by simp)
     cases hq3
     refine⟨_,rfl,_,hg3 0 _ rfl,?_⟩
     have st23:=st2.trans st3
     have hA3:=hA1.write (n':=pt d n) hr hr6 hb hp st23 ⟨s',r3,r1.keep st23 (by simp;omega)⟩
     rw[<-agQ hA.keys hp (pt d)]at hA3
     have hres:=hQ tag1 I3 (((st1 []).c (by simp)).trans (st23.c (by simp;omega))) (by rw[hre];exact⟨M,_,hA3⟩)
     rw[hre]at hres
     exact hres
  .rw[if_pos (by simpa using h1)]
   have e:parts (L p)=none:=by
    cases h:parts (L p)with
    | none=>rfl
    | some ps=>exact absurd (vq.2 ⟨ps,h⟩) h1
   exact same 20 (by unfold vW;rw[if_pos (.inr e)])
end Zt
namespace Zt
open Go SL Pa
variable{o v:Int}{ks:List Str}{n:Nd}{st:St}{d k p q u:Str}
def kc(ks:List Str)(u:Str):Nat:=ks.countP fun k=>qB k=some u
theorem zd(st:St)(u:Str)(f:Nd->Nd)(k:Str):(wi st u f).lookup k=if k=u then(st.lookup k).map f else st.lookup k:=by
 induction st with
 | nil=>simp[wi]
 | cons p st ih=>
  obtain⟨p,n⟩:=p
  unfold wi at ih⊢
  rw[List.map_cons]
  by_cases e:p=u
  .subst e
   simp only[if_true]
   rw[List.lookup_cons,List.lookup_cons,ih]
   by_cases c:k=p
   .subst c;simp
   .rw[show(k == p)=false by simpa using c]
  .simp only[e,if_false]
   rw[List.lookup_cons,List.lookup_cons,ih]
   by_cases c:k=p
   .subst c;simp[e]
   .rw[show(k == p)=false by simpa using c]
theorem uY(st:St)(q:Str)(n:Nd)(k:Str):(st++[(q,n)]).lookup k=match st.lookup k with | some m=>some m | none=>if k=q then some n else none:=by
 induction st with
 | nil=>
  rw[List.nil_append,List.lookup_cons]
  by_cases c:k=q
  .subst c;simp
  .rw[show(k == q)=false by simpa using c];simp[c]
 | cons p st ih=>
  obtain⟨p,m⟩:=p
  rw[List.cons_append,List.lookup_cons,List.lookup_cons,ih]
  by_cases c:k=p
  .subst c;simp
  .rw[show(k == p)=false by simpa using c]
theorem ahV(h:k∉st.map (·.1)):st.lookup k=none:=by
 rw[List.lookup_eq_none_iff]
 intro p hp
 simp
 intro e
 exact h (List.mem_map.2 ⟨p,hp,e.symm⟩)
theorem abt(hk:(st.map (·.1)).Nodup)(q k:Str):(yn st q).lookup k=if k=q then none else st.lookup k:=by
 induction st with
 | nil=>simp[yn]
 | cons p st ih=>
  obtain⟨p,n⟩:=p
  rw[List.map_cons,List.nodup_cons]at hk
  unfold yn
  by_cases e:q=p
  .subst e
   rw[if_pos rfl]
   by_cases c:k=q
   .subst c;rw[if_pos rfl];exact ahV hk.1
   .rw[if_neg c,List.lookup_cons,show(k == q)=false by simpa using c]
  .rw[if_neg e,List.lookup_cons,List.lookup_cons,ih hk.2]
   by_cases c:k=p
   .subst c;simp[show¬k=q from fun h=>e h.symm]
   .rw[show(k == p)=false by simpa using c]
theorem ui(st:St)(u:Str)(f:Nd->Nd):(wi st u f).map (·.1)=st.map (·.1):=by
 unfold wi;rw[List.map_map]
 refine List.map_congr_left fun p _=>?_
 simp only[Function.comp]
 split<;>rfl
theorem aqy(h:st.lookup q=some n):∃ a b,st.map (·.1)=a++q::b/\(yn st q).map (·.1)=a++b:=by
 induction st with
 | nil=>cases h
 | cons p st ih=>
  obtain⟨p,m⟩:=p
  unfold yn
  by_cases e:q=p
  .subst e;exact⟨[],st.map (·.1),rfl,by rw[if_pos rfl];try rfl⟩
  .rw[List.lookup_cons,show(q == p)=false by simpa using e]at h
   obtain⟨a,b,h1,h2⟩:=ih h
   exact⟨p::a,b,by rw[List.map_cons,h1];try rfl,by rw[if_neg e,List.map_cons,h2];try rfl⟩
theorem afv(h:k∈st.map (·.1)):∃ n,st.lookup k=some n:=by
 cases e:st.lookup k with
 | some n=>exact⟨n,rfl⟩
 | none=>exact absurd h (abY e)
theorem ale(h:st.lookup k=some n):k∈st.map (·.1):=Classical.byContradiction fun hn=>by
 rw[ahV hn]at h;cases h
structure Inv(st:St):Prop where
 keys:(st.map (·.1)).Nodup
 root:∃ n,st.lookup [47]=some n
 path:∀ k n,st.lookup k=some n->∃ ps,parts k=some ps
 up:∀ k n,st.lookup k=some n->k≠[47]->∃ u m,qB k=some u/\st.lookup u=some m/\m.own=0
 kids:∀ k n,st.lookup k=some n->n.kids=(kc (st.map (·.1)) k:Nat)
 ctr:∀ k n,st.lookup k=some n->n.kids<=n.ctr/\n.ctr<=10000000000
 data:∀ k n,st.lookup k=some n->n.data.length<=256
theorem ar6:Inv St.new:=by
 have hl:∀ k n,St.new.lookup k=some n->k=[47]/\n=⟨0,0,0,0,[]⟩:=fun k n h=>by
  unfold St.new at h
  rw[List.lookup_cons]at h
  by_cases c:k=[47]
  .subst c;simp at h;exact⟨rfl,h.symm⟩
  .rw[show(k == [47])=false by simpa using c]at h;cases h
 refine⟨by simp[St.new],⟨_,rfl⟩,fun k n h=>?_,fun k n h hne=>absurd (hl k n h).1 hne,fun k n h=>?_,fun k n h=>?_,fun k n h=>?_⟩
 .rw[(hl k n h).1];exact⟨[],rfl⟩
 .obtain⟨rfl,rfl⟩:=hl k n h
  decide
 .rw[(hl k n h).2];decide
 .rw[(hl k n h).2];decide
theorem ar7(k n:Nat):∀ c∈ady k n,c≠47:=by
 induction k generalizing n with
 | zero=>intro c h;cases h
 | succ k ih=>
  intro c h
  rw[ady]at h
  rcases List.mem_append.1 h with h | h
  .exact ih _ c h
  .rw[List.mem_singleton]at h
   intro e
   have h1:=congrArg UInt8.toNat (h.symm.trans e)
   have:n%10<10:=Nat.mod_lt _ (by omega)
   simp at h1
   omega
theorem acf{n:Int}(h:yY p n=some q):∃ ps,parts q=some ps/\qB q=qB p:=by
 unfold yY at h
 cases hp:parts p with
 | none=>rw[hp]at h;cases h
 | some ps=>
  rw[hp]at h
  simp only at h
  split at h
  .cases h
  .rename_i hn
   split at h
   .rename_i hs
    cases h
    obtain⟨qs,hqs⟩:=Option.isSome_iff_exists.1 hs
    refine⟨qs,hqs,?_⟩
    obtain⟨hl,hg⟩:=wd.1 hp
    obtain⟨hql,hqg⟩:=wd.1 hqs
    have hne:ps≠[]:=fun e=>hn (.inl e)
    obtain⟨zs,x,rfl⟩:∃ zs x,ps=zs++[x]:=by
     rcases List.eq_nil_or_concat ps with e | ⟨zs,x,e⟩
     .exact absurd e hne
     .exact⟨zs,x,by rw[e,List.concat_eq_append]⟩
    have e1:p++yX n=mk (zs++[x++yX n]):=by
     rw[hl,abs,abs];simp
    have hqn:qs≠[]:=by
     intro e
     subst e
     have h1:=congrArg List.length hql
     rw[List.length_append]at h1
     have h2:1<=p.length:=by rw[hl];exact ajT _
     have h3:(yX n).length=10:=amj 10 _
     simp[mk]at h1;omega
    have e2:qs=zs++[x++yX n]:=by
     have c1:cut ((mk qs).drop 1)=qs:=by unfold mk;rw[if_neg hqn];exact ahQ qs hqn fun y hy=>acQ (hqg.ok y hy)
     have c2:cut ((mk (zs++[x++yX n])).drop 1)=zs++[x++yX n]:=by
      unfold mk;rw[if_neg (by simp)]
      refine ahQ _ (by simp) fun y hy=>?_
      rcases List.mem_append.1 hy with h | h
      .exact acQ (hg.ok y (by simp[h]))
      .rw[List.mem_singleton]at h
       rw[h]
       intro hm
       rcases List.mem_append.1 hm with h' | h'
       .exact acQ (hg.ok x (by simp)) h'
       .exact ar7 _ _ 47 h' rfl
     rw[<-c1,<-hql,e1,c2]
    unfold qB
    rw[hqs,hp,e2]
    simp
   .cases h
theorem aga(a b:List Str)(u:Str):kc (a++b) u=kc a u+kc b u:=by unfold kc;rw[List.countP_append]
theorem ajZ(q u:Str):kc [q] u=if qB q=some u then 1 else 0:=by unfold kc;simp[List.countP_cons]
theorem apa(h:kc ks u≠0):∃ k∈ks,qB k=some u:=by
 have:0<kc ks u:=by omega
 unfold kc at this
 rw[List.countP_pos_iff]at this
 obtain⟨k,h1,h2⟩:=this
 exact⟨k,h1,by simpa using h2⟩
theorem arO(h:k∈ks)(hp:qB k=some u):kc ks u≠0:=by
 have:0<kc ks u:=by
  unfold kc
  rw[List.countP_pos_iff]
  exact⟨k,h,by simpa using hp⟩
 omega
theorem afS:qB [47]=none:=rfl
theorem Inv.no_kids(h:Inv st)(hq:st.lookup q=none):kc (st.map (·.1)) q=0:=by
 refine Classical.byContradiction fun hn=>?_
 obtain⟨k,hk,hp⟩:=apa hn
 obtain⟨n,hl⟩:=afv hk
 have hne:k≠[47]:=fun e=>by rw[e,afS]at hp;cases hp
 obtain⟨u,m,h1,h2,_⟩:=h.up k n hl hne
 rw[hp]at h1
 cases h1
 rw[hq]at h2;cases h2
theorem amm(h:qB q=some u):∃ ps,parts q=some ps:=by
 unfold qB at h
 cases hp:parts q with
 | none=>rw[hp]at h;cases h
 | some ps=>exact⟨ps,rfl⟩
theorem ar8(h:Inv st)(hlen:st.length<=4398046511104)(hu:st.lookup u=some n)(ho:n.own=0)(hc:¬ 9999999999<n.ctr)(hq:st.lookup q=none)(hpq:qB q=some u)(hd:d.length<=256):
  Inv (wi (st++[(q,⟨0,0,o,0,d⟩)]) u jw):=by
 have hqu:q≠u:=fun e=>by rw[e,hu]at hq;cases hq
 have hkids:=h.kids u n hu
 have hctr:=h.ctr u n hu
 have hle:kc (st.map (·.1)) u<=st.length:=by unfold kc;exact Nat.le_trans List.countP_le_length (by simp)
 have lk:∀ k,(wi (st++[(q,(⟨0,0,o,0,d⟩:Nd))]) u jw).lookup k=if k=u then some (jw n)else if k=q then some ⟨0,0,o,0,d⟩else st.lookup k:=fun k=>by
  rw[zd,uY]
  by_cases e:k=u
  .subst e;rw[if_pos rfl,if_pos rfl,hu];try rfl
  .rw[if_neg e,if_neg e]
   by_cases e2:k=q
   .subst e2;rw[hq]
   .rw[if_neg e2,if_neg e2];cases st.lookup k<;>rfl
 have hb:jw n={n with ctr:=n.ctr+1,kids:=n.kids+1}:=by
  unfold jw
  rw[SL.wb (by omega) (by omega),SL.wb (by omega) (by omega)]
 have hkeys:(wi (st++[(q,(⟨0,0,o,0,d⟩:Nd))]) u jw).map (·.1)=st.map (·.1)++[q]:=by rw[ui,List.map_append];try rfl
 have hkc:∀ k,kc ((wi (st++[(q,(⟨0,0,o,0,d⟩:Nd))]) u jw).map (·.1)) k=kc (st.map (·.1)) k+if u=k then 1 else 0:=fun k=>by
  rw[hkeys,aga,ajZ,hpq]
  simp
 have old:∀ v m,st.lookup v=some m->∃ m',(wi (st++[(q,(⟨0,0,o,0,d⟩:Nd))]) u jw).lookup v=some m'/\m'.own=m.own:=fun v m hv=>by
  rw[lk]
  by_cases e:v=u
  .subst e
   rw[hu]at hv;cases hv
   exact⟨_,if_pos rfl,rfl⟩
  .have e2:v≠q:=fun e=>by rw[e,hq]at hv;cases hv
   exact⟨m,by rw[if_neg e,if_neg e2];exact hv,rfl⟩
 have cases3:∀ k m,(wi (st++[(q,(⟨0,0,o,0,d⟩:Nd))]) u jw).lookup k=some m->(k=u/\m=jw n)\/(k=q/\k≠u/\m=⟨0,0,o,0,d⟩)\/(k≠u/\k≠q/\st.lookup k=some m):=fun k m hk=>by
  rw[lk]at hk
  by_cases e:k=u
  .rw[if_pos e]at hk;exact .inl ⟨e,(Option.some.inj hk).symm⟩
  .rw[if_neg e]at hk
   by_cases e2:k=q
   .rw[if_pos e2]at hk;exact .inr (.inl ⟨e2,e,(Option.some.inj hk).symm⟩)
   .rw[if_neg e2]at hk;exact .inr (.inr ⟨e,e2,hk⟩)
 refine⟨?_,?_,fun k m hk=>?_,fun k m hk hne=>?_,fun k m hk=>?_,fun k m hk=>?_,fun k m hk=>?_⟩
 .rw[hkeys,List.nodup_append]
  refine⟨h.keys,by simp,?_⟩
  intro x hx y hy
  simp at hy
  intro e
  exact abY hq (by rw[<-hy,<-e];exact hx)
 .obtain⟨n0,h0⟩:=h.root
  obtain⟨m',h1,_⟩:=old _ _ h0
  exact⟨m',h1⟩
 .rcases cases3 k m hk with⟨rfl,_⟩ | ⟨rfl,_,_⟩ | ⟨_,_,h3⟩
  .exact h.path _ n hu
  .exact amm hpq
  .exact h.path k m h3
 .have fin:∀ v mm,qB k=some v->st.lookup v=some mm->mm.own=0->∃ u' m',qB k=some u'/\(wi (st++[(q,(⟨0,0,o,0,d⟩:Nd))]) u jw).lookup u'=some m'/\m'.own=0:=fun v mm h1 h2 h3=>by
   obtain⟨m',h4,h5⟩:=old v mm h2
   exact⟨v,m',h1,h4,by rw[h5];exact h3⟩
  rcases cases3 k m hk with⟨rfl,_⟩ | ⟨rfl,_,_⟩ | ⟨_,_,h3⟩
  .obtain⟨v,mm,h1,h2,h3⟩:=h.up _ n hu hne
   exact fin v mm h1 h2 h3
  .exact fin u n hpq hu ho
  .obtain⟨v,mm,h1,h2,h4⟩:=h.up k m h3 hne
   exact fin v mm h1 h2 h4
 .rw[hkc]
  rcases cases3 k m hk with⟨rfl,rfl⟩ | ⟨rfl,hne,rfl⟩ | ⟨h1,_,h3⟩
  .rw[if_pos rfl,hb];show n.kids+1=_;omega
  .rw[if_neg (fun e=>hne e.symm),h.no_kids hq];try rfl
  .rw[if_neg (fun e=>h1 e.symm)];exact h.kids k m h3
 .rcases cases3 k m hk with⟨rfl,rfl⟩ | ⟨rfl,hne,rfl⟩ | ⟨h1,_,h3⟩
  .rw[hb];show n.kids+1<=n.ctr+1/\n.ctr+1<=_;omega
  .exact⟨Int.le_refl _,show(0:Int)<=10000000000 by decide⟩
  .exact h.ctr k m h3
 .rcases cases3 k m hk with⟨rfl,rfl⟩ | ⟨rfl,hne,rfl⟩ | ⟨h1,_,h3⟩
  .exact h.data _ n hu
  .exact hd
  .exact h.data k m h3
theorem aoj(st:St)(p d:Str)(o:Int)(seq:Bool):(wt st p d o seq).1.length<=st.length+1:=by
 unfold wt
 repeat' split
 all_goals first | exact Nat.le_succ _ | (simp[wi])
theorem aok{seq:Bool}(h:Inv st)(hlen:st.length<=4398046511104):Inv (wt st p d o seq).1:=by
 unfold wt
 cases hp:qB p with
 | none=>exact h
 | some u=>
  simp only
  split
  .exact h
  .rename_i hd
   split
   .exact h
   .cases hu:st.lookup u with
    | none=>exact h
    | some n=>
     simp only
     split
     .exact h
     .rename_i ho
      split
      .exact h
      .rename_i hc
       cases hq:(if seq=true then yY p n.ctr else some p)with
       | none=>exact h
       | some q=>
        simp only
        split
        .exact h
        .rename_i hs
         have hqn:st.lookup q=none:=by
          cases e:st.lookup q with
          | none=>rfl
          | some x=>rw[e]at hs;exact absurd rfl hs
         have hpq:qB q=some u:=by
          split at hq
          .obtain⟨_,_,e⟩:=acf hq
           rw[e];exact hp
          .cases hq;exact hp
         exact ar8 h hlen hu (by simpa using ho) hc hqn hpq (by omega)
theorem aj0(st:St)(p:Str)(v:Int):(wL st p v).1.length<=st.length:=by
 have hdel:∀ (s:St) q,(yn s q).length<=s.length:=fun s q=>by
  induction s with
  | nil=>simp[yn]
  | cons x s ih=>
   obtain⟨k,n⟩:=x
   unfold yn
   split
   .simp
   .simp;exact ih
 unfold wL
 repeat' split
 all_goals first | exact Nat.le_refl _ | (refine Nat.le_trans (hdel _ _) ?_;simp[wi])
theorem aj1(h:Inv st)(hlen:st.length<=4398046511104):Inv (wL st p v).1:=by
 unfold wL
 split
 .exact h
 .rename_i hg
  cases hl:st.lookup p with
  | none=>exact h
  | some n=>
   simp only
   split
   .exact h
   .split
    .exact h
    .rename_i hk0
     cases hpp:qB p with
     | none=>exact h
     | some u=>
      simp only
      have hne:p≠[47]:=fun e=>hg (.inl e)
      obtain⟨u',m,h1,hu,ho⟩:=h.up p n hl hne
      rw[hpp]at h1;cases h1
      have hpu:=ad4 hpp
      have hkn:=h.kids p n hl
      have hz:kc (st.map (·.1)) p=0:=by omega
      have hkm:=h.kids u m hu
      have hcm:=h.ctr u m hu
      have hin:=ale hl
      have hpos:=arO hin hpp
      have hle:kc (st.map (·.1)) u<=st.length:=by unfold kc;exact Nat.le_trans List.countP_le_length (by simp)
      have hb:yy m={m with kids:=m.kids - 1}:=by
       unfold yy;rw[SL.wb (by omega) (by omega)]
      have hkM:((wi st u yy).map (·.1)).Nodup:=by rw[ui];exact h.keys
      have lk:∀ k,(yn (wi st u yy) p).lookup k=if k=p then none else if k=u then some (yy m)else st.lookup k:=fun k=>by
       rw[abt hkM,zd]
       by_cases e:k=p
       .rw[if_pos e,if_pos e]
       .rw[if_neg e,if_neg e]
        by_cases e2:k=u
        .subst e2;rw[if_pos rfl,if_pos rfl,hu];try rfl
        .rw[if_neg e2,if_neg e2]
      have hlM:(wi st u yy).lookup p=some n:=by rw[zd,if_neg hpu];exact hl
      obtain⟨a,b,k1,k2⟩:=aqy hlM
      rw[ui]at k1
      have hkc:∀ k,kc (st.map (·.1)) k=kc ((yn (wi st u yy) p).map (·.1)) k+if u=k then 1 else 0:=fun k=>by
       rw[k1,k2,show a++p::b=a++([p]++b)from rfl,aga,aga,aga,ajZ,hpp]
       simp;omega
      have cases2:∀ k x,(yn (wi st u yy) p).lookup k=some x->k≠p/\((k=u/\x=yy m)\/(k≠u/\st.lookup k=some x)):=fun k x hk=>by
       rw[lk]at hk
       by_cases e:k=p
       .rw[if_pos e]at hk;cases hk
       .rw[if_neg e]at hk
        by_cases e2:k=u
        .rw[if_pos e2]at hk;exact⟨e,.inl ⟨e2,(Option.some.inj hk).symm⟩⟩
        .rw[if_neg e2]at hk;exact⟨e,.inr ⟨e2,hk⟩⟩
      have old:∀ v x,st.lookup v=some x->v≠p->∃ x',(yn (wi st u yy) p).lookup v=some x'/\x'.own=x.own:=fun v x hv hvp=>by
       rw[lk,if_neg hvp]
       by_cases e:v=u
       .subst e
        rw[hu]at hv;cases hv
        exact⟨_,if_pos rfl,rfl⟩
       .exact⟨x,by rw[if_neg e];exact hv,rfl⟩
      refine⟨?_,?_,fun k x hk=>?_,fun k x hk hkn=>?_,fun k x hk=>?_,fun k x hk=>?_,fun k x hk=>?_⟩
      .rw[k2]
       have:=h.keys
       rw[k1]at this
       exact List.Nodup.sublist (List.Sublist.append_left (List.sublist_cons_self _ _) _) this
      .obtain⟨n0,h0⟩:=h.root
       obtain⟨x',h1,_⟩:=old _ _ h0 (fun e=>hne e.symm)
       exact⟨x',h1⟩
      .rcases cases2 k x hk with⟨_,⟨rfl,_⟩ | ⟨_,h3⟩⟩
       .exact h.path _ m hu
       .exact h.path k x h3
      .have hkin:∃ y,st.lookup k=some y:=by
        rcases cases2 k x hk with⟨_,⟨rfl,_⟩ | ⟨_,h3⟩⟩
        .exact⟨m,hu⟩
        .exact⟨x,h3⟩
       obtain⟨y,hy⟩:=hkin
       obtain⟨w,mm,g1,g2,g3⟩:=h.up k y hy hkn
       have hwp:w≠p:=fun e=>arO (ale hy) (by rw[g1,e]) hz
       obtain⟨x',g4,g5⟩:=old w mm g2 hwp
       exact⟨w,x',g1,g4,by rw[g5];exact g3⟩
      .have hkc':=hkc k
       rcases cases2 k x hk with⟨_,⟨rfl,rfl⟩ | ⟨h2,h3⟩⟩
       .rw[if_pos rfl]at hkc'
        rw[hb];show m.kids - 1=_;omega
       .rw[if_neg (fun e=>h2 e.symm)]at hkc'
        have:=h.kids k x h3
        omega
      .rcases cases2 k x hk with⟨_,⟨rfl,rfl⟩ | ⟨h2,h3⟩⟩
       .rw[hb];show m.kids - 1<=m.ctr/\m.ctr<=_;omega
       .exact h.ctr k x h3
      .rcases cases2 k x hk with⟨_,⟨rfl,rfl⟩ | ⟨h2,h3⟩⟩
       .exact h.data _ m hu
       .exact h.data k x h3
theorem aqz(st:St)(p d:Str)(v:Int):(vW st p d v).1.length=st.length:=by
 unfold vW
 repeat' split
 all_goals first | rfl | simp[wi]
theorem ar9(h:Inv st):Inv (vW st p d v).1:=by
 unfold vW
 split
 .exact h
 .split
  .exact h
  .rename_i hd
   cases hl:st.lookup p with
   | none=>exact h
   | some n=>
    simp only
    split
    .exact h
    .have lk:∀ k x,(wi st p (pt d)).lookup k=some x->∃ y,st.lookup k=some y/\x.kids=y.kids/\x.ctr=y.ctr/\x.own=y.own/\x.data.length<=256:=fun k x hk=>by
      rw[zd]at hk
      by_cases e:k=p
      .subst e
       rw[if_pos rfl,hl]at hk
       cases hk
       exact⟨n,hl,rfl,rfl,rfl,by show d.length<=256;omega⟩
      .rw[if_neg e]at hk
       exact⟨x,hk,rfl,rfl,rfl,h.data k x hk⟩
     have old:∀ k y,st.lookup k=some y->∃ x,(wi st p (pt d)).lookup k=some x/\x.own=y.own:=fun k y hk=>by
      rw[zd]
      by_cases e:k=p
      .rw[if_pos e,hk];exact⟨_,rfl,rfl⟩
      .rw[if_neg e];exact⟨y,hk,rfl⟩
     refine⟨by rw[ui];exact h.keys,?_,fun k x hk=>?_,fun k x hk hne=>?_,fun k x hk=>?_,fun k x hk=>?_,fun k x hk=>?_⟩
     .obtain⟨n0,h0⟩:=h.root
      obtain⟨x,h1,_⟩:=old _ _ h0
      exact⟨x,h1⟩
     .obtain⟨y,h1,_⟩:=lk k x hk
      exact h.path k y h1
     .obtain⟨y,h1,_⟩:=lk k x hk
      obtain⟨u,m,g1,g2,g3⟩:=h.up k y h1 hne
      obtain⟨m',g4,g5⟩:=old u m g2
      exact⟨u,m',g1,g4,by rw[g5];exact g3⟩
     .obtain⟨y,h1,h2,_⟩:=lk k x hk
      rw[ui,h2];exact h.kids k y h1
     .obtain⟨y,h1,h2,h3,_⟩:=lk k x hk
      rw[h2,h3];exact h.ctr k y h1
     .obtain⟨y,_,_,_,_,h5⟩:=lk k x hk
      exact h5
end Zt
namespace Wi
open Go SL
variable{e n:Nat}{d l:Str}
def wg(n:Nat):Str:=if n<128 then [UInt8.ofNat n]else UInt8.ofNat (n%128+128)::wg (n / 128)
termination_by n
decreasing_by omega
def val:Str->Nat
 | []=>0
 | c::r=>c.toNat%128+128*val r
def aaD:Nat->Str->Option Nat
 | 0,_=>none
 | _+1,[]=>none
 | k+1,c::r=>if c.toNat<128 then some 0 else(aaD k r).map (· +1)
def num(l:Str):Nat×Nat×Int:=
 match aaD 9 l with
 | none=>(0,0,if l.length<9 then 12 else 13)
 | some k=>if(0<k/\l[k]?=some 0)\/4611686018427387904<=val (l.take (k+1))then(0,0,13)else(val (l.take (k+1)),k+1,0)
theorem arP(c:UInt8):c.toNat<256:=c.toNat_lt
theorem aeG(n:Nat)(h:n<256):(UInt8.ofNat n).toNat=n:=by simp;omega
theorem aol{c d:UInt8}(h:c.toNat=d.toNat):c=d:=UInt8.toNat_inj.1 h
theorem ahW:∀ (m:Nat) (l:Str) (k:Nat),aaD m l=some k->k<m/\k<l.length/\(∀i c,i<k->l[i]?=some c->128<=c.toNat)/\∃ c,l[k]?=some c/\c.toNat<128:=by
 intro m
 induction m with
 | zero=>intro l k h;cases h
 | succ m ih=>
  intro l k h
  cases l with
  | nil=>cases h
  | cons c r=>
   unfold aaD at h
   split at h
   .rename_i hc
    cases h
    exact⟨by omega,by simp,fun i c hi=>by omega,c,rfl,hc⟩
   .rename_i hc
    obtain⟨k',hk',rfl⟩:=Option.map_eq_some_iff.1 h
    obtain⟨h1,h2,h3,h4⟩:=ih r k' hk'
    refine⟨by omega,by simp;omega,fun i d hi hd=>?_,by simpa using h4⟩
    rcases i with _ | i
    .cases hd;omega
    .exact h3 i d (by omega) (by simpa using hd)
theorem asa:∀ (m:Nat) (l:Str) (k:Nat) (d:UInt8),k<m->(∀i c,i<k->l[i]?=some c->128<=c.toNat)->l[k]?=some d->d.toNat<128->aaD m l=some k:=by
 intro m
 induction m with
 | zero=>intro l k d h;omega
 | succ m ih=>
  intro l k d hk hall hd hsm
  cases l with
  | nil=>cases hd
  | cons c r=>
   unfold aaD
   rcases k with _ | k
   .cases hd;rw[if_pos hsm]
   .rw[if_neg (by have:=hall 0 c (by omega) rfl;omega),ih r k d (by omega) (fun i e hi he=>hall (i+1) e (by omega) (by simpa using he)) (by simpa using hd) hsm];rfl
theorem ahX:∀ (m:Nat) (l:Str),(∀i c,i<m->l[i]?=some c->128<=c.toNat)->aaD m l=none:=by
 intro m l h
 cases e:aaD m l with
 | none=>rfl
 | some k=>
  obtain⟨h1,_,_,c,hc,h4⟩:=ahW m l k e
  have:=h k c h1 hc
  omega
theorem amn:∀ (l:Str) (k:Nat),val (l.take k)<128 ^ k:=by
 intro l
 induction l with
 | nil=>intro k;simp[val];exact Nat.pow_pos (by decide)
 | cons c r ih=>
  intro k
  cases k with
  | zero=>simp[val]
  | succ k=>
   have:=ih k
   simp only[List.take_succ_cons,val]
   have:=Nat.mod_lt c.toNat (show 0<128 by decide)
   rw[Nat.pow_succ]
   omega
theorem aqA(l:Str)(c:UInt8):val (l++[c])=val l+128 ^ l.length*(c.toNat%128):=by
 induction l with
 | nil=>simp[val]
 | cons d l ih=>simp only[List.cons_append,val,ih,List.length_cons,Nat.pow_succ];rw[Nat.mul_add,<-Nat.mul_assoc,Nat.mul_comm 128 (128 ^ l.length)];omega
theorem aqB:∀ (m:Nat) (l:Str) (k:Nat),aaD m l=some k->(k=0\/l[k]?≠some 0)->wg (val (l.take (k+1)))=l.take (k+1)/\(0<k->0<val (l.take (k+1))):=by
 intro m
 induction m with
 | zero=>intro l k h;cases h
 | succ m ih=>
  intro l k h hz
  cases l with
  | nil=>cases h
  | cons c r=>
   unfold aaD at h
   split at h
   .rename_i hc
    cases h
    refine⟨?_,fun h=>by omega⟩
    simp only[List.take_succ_cons,List.take_zero,val,Nat.mul_zero,Nat.add_zero,Nat.mod_eq_of_lt hc]
    unfold wg
    rw[if_pos hc]
    simp
   .rename_i hc
    obtain⟨k',hk',rfl⟩:=Option.map_eq_some_iff.1 h
    have hne:(k'=0\/r[k']?≠some 0)/\r[k']?≠some 0:=by
     rcases hz with h0 | h0
     .omega
     .have:r[k']?≠some 0:=by simpa using h0
      exact⟨.inr this,this⟩
    obtain⟨h1,h2⟩:=ih r k' hk' hne.1
    obtain⟨_,h3,_,d,hd,hd'⟩:=ahW m r k' hk'
    have hpos:0<val (r.take (k'+1)):=by
     rcases Nat.eq_zero_or_pos k' with h0 | h0
     .subst h0
      cases r with
      | nil=>cases hd
      | cons e r=>
       cases hd
       simp only[List.take_succ_cons,List.take_zero,val,Nat.mul_zero,Nat.add_zero,Nat.mod_eq_of_lt hd']
       rcases Nat.eq_zero_or_pos d.toNat with h5 | h5
       .exact absurd (by rw[show d=0 from aol h5];try rfl) hne.2
       .exact h5
     .exact h2 h0
    have hc256:=arP c
    refine⟨?_,fun _=>?_⟩
    .simp only[List.take_succ_cons,val]
     unfold wg
     rw[if_neg (by omega),show(c.toNat%128+128*val (List.take (k'+1) r)) / 128=val (List.take (k'+1) r) by omega,h1]
     congr 1
     refine aol ?_
     rw[aeG _ (by omega)];omega
    .simp only[List.take_succ_cons,val];omega
theorem akB(n:Nat):wg n≠[]:=by unfold wg;split<;>simp
theorem uZ:∀ (m n:Nat),n<128 ^ (m+1)->1<=(wg n).length/\(wg n).length<=m+1:=by
 intro m
 induction m with
 | zero=>intro n h;unfold wg;rw[if_pos (by simpa using h)];simp
 | succ m ih=>
  intro n h
  unfold wg
  split
  .simp
  .have:=ih (n / 128) (by rw[Nat.pow_succ]at h;exact Nat.div_lt_of_lt_mul (by rw[Nat.mul_comm];exact h))
   simp;omega
theorem apb:∀ (m n:Nat) (r:Str),n<128 ^ (m+1)->∃ k,aaD (m+1) (wg n++r)=some k/\(wg n).length=k+1/\val (wg n)=n/\(0<k->(wg n)[k]?≠some 0)/\(0<n\/k=0):=by
 intro m
 induction m with
 | zero=>
  intro n r h
  have h:n<128:=by simpa using h
  unfold wg
  rw[if_pos h]
  refine⟨0,?_,rfl,?_,fun h=>by omega,.inr rfl⟩
  .unfold aaD;rw[List.cons_append];simp only;rw[aeG _ (by omega),if_pos h]
  .simp only[val];rw[aeG _ (by omega)];omega
 | succ m ih=>
  intro n r h
  by_cases hn:n<128
  .unfold wg
   rw[if_pos hn]
   refine⟨0,?_,rfl,?_,fun h=>by omega,.inr rfl⟩
   .unfold aaD;rw[List.cons_append];simp only;rw[aeG _ (by omega),if_pos hn]
   .simp only[val];rw[aeG _ (by omega)];omega
  .obtain⟨k,h1,h2,h3,h4,h5⟩:=ih (n / 128) r (by rw[Nat.pow_succ]at h;exact Nat.div_lt_of_lt_mul (by rw[Nat.mul_comm];exact h))
   rw[wg,if_neg hn]
   refine⟨k+1,?_,by simp[h2],?_,fun _=>?_,.inl (by omega)⟩
   .rw[List.cons_append]
    unfold aaD
    rw[aeG _ (by omega),if_neg (by omega),h1];try rfl
   .simp only[val];rw[h3,aeG _ (by omega)];omega
   .rw[List.getElem?_cons_succ]
    rcases Nat.eq_zero_or_pos k with h0 | h0
    .subst h0
     have hlt:n / 128<128\/¬ n / 128<128:=by omega
     rcases hlt with hlt | hlt
     .rw[wg,if_pos hlt]
      simp only[List.getElem?_cons_zero]
      intro e
      have:=congrArg UInt8.toNat (Option.some.inj e)
      rw[aeG _ (by omega)]at this
      simp at this;omega
     .rw[wg,if_neg hlt]at h2
      have:=List.length_pos_iff.2 (akB (n / 128 / 128))
      rw[List.length_cons]at h2;omega
    .exact h4 h0
theorem asb(h:n<4611686018427387904)(r:Str):num (wg n++r)=(n,(wg n).length,0):=by
 obtain⟨k,h1,h2,h3,h4,_⟩:=apb 8 n r (by omega)
 unfold num
 rw[h1]
 have e1:(wg n++r).take (k+1)=wg n:=by rw[<-h2];simp
 have e2:(wg n++r)[k]?=(wg n)[k]?:=List.getElem?_append_left (by omega)
 simp only[e1,e2,h3]
 rw[if_neg,h2]
 rintro(⟨h5,h6⟩ | h5)
 .exact h4 h5 h6
 .omega
theorem akC(h:num l=(n,e,0)):n<4611686018427387904/\0<e/\e<=l.length/\l.take e=wg n:=by
 unfold num at h
 cases hs:aaD 9 l with
 | none=>
  rw[hs]at h
  simp only[Prod.mk.injEq]at h
  have:=h.2.2
  split at this<;>omega
 | some k=>
  rw[hs]at h
  simp only at h
  split at h
  .simp at h
  .rename_i hb
   simp only[not_or]at hb
   simp only[Prod.mk.injEq]at h
   obtain⟨rfl,rfl,_⟩:=h
   obtain⟨_,h2,_,_⟩:=ahW 9 l k hs
   refine⟨by omega,by omega,by omega,((aqB 9 l k hs ?_).1).symm⟩
   rcases Nat.eq_zero_or_pos k with h0 | h0
   .exact .inl h0
   .exact .inr fun h=>hb.1 ⟨h0,h⟩
theorem apc(h:num l=(n,e,0)):l=wg n++l.drop e:=by
 rw[<-(akC h).2.2.2,List.take_append_drop]
theorem asc(h:(num l).2.2≠0):(num l).1=0/\(num l).2.1=0/\((num l).2.2=12\/(num l).2.2=13):=by
 unfold num at h⊢
 cases hs:aaD 9 l with
 | none=>simp only;refine⟨by simp,by simp,?_⟩;split<;>simp
 | some k=>
  rw[hs]at h
  simp only at h⊢
  split
  .simp
  .rename_i hb;rw[if_neg hb]at h;simp at h
theorem apd(l:Str):(num l).2.1<=l.length/\(num l).1<4611686018427387904:=by
 by_cases h:(num l).2.2=0
 .obtain⟨h1,_,h3,_⟩:=akC (l:=l) (n:=(num l).1) (e:=(num l).2.1) (by rw[<-h])
  exact⟨h3,h1⟩
 .obtain⟨h1,h2,_⟩:=asc h
  rw[h1,h2];exact⟨Nat.zero_le _,by decide⟩
def qQ(x:Int):Bool:=decide (0<=x) && decide (x<=4611686018427387903)
structure Rd where
 rest:Str
 err:Int
def yZ(d:Str):Str:=wg d.length++d
def qR(r:Rd):Nat×Rd:=if r.err≠0 then(0,r)else((num r.rest).1,⟨r.rest.drop (num r.rest).2.1,(num r.rest).2.2⟩)
def wo(r:Rd):Str×Rd:=
 if(qR r).2.err≠0 then([],(qR r).2)
 else if(qR r).2.rest.length<(qR r).1 then([],⟨r.rest,12⟩)
 else((qR r).2.rest.take (qR r).1,⟨(qR r).2.rest.drop (qR r).1,0⟩)
theorem agS(h:n<4611686018427387904)(r:Str):qR ⟨wg n++r,0⟩=(n,⟨r,0⟩):=by
 unfold qR
 simp only[ne_eq,not_true_eq_false,if_false,asb h,List.drop_left]
theorem alf(h:d.length<4611686018427387904)(r:Str):wo ⟨yZ d++r,0⟩=(d,⟨r,0⟩):=by
 unfold wo yZ
 rw[List.append_assoc,agS h]
 simp
theorem ajm{r:Rd}(h:r.err≠0):qR r=(0,r):=by unfold qR;rw[if_pos h]
theorem ape{r:Rd}(h:r.err≠0):wo r=([],r):=by unfold wo;rw[ajm h,if_pos h]
theorem agT{r:Rd}(h:(qR r).2.err=0):r.err=0:=Classical.byContradiction fun hn=>hn (by rw[ajm hn]at h;exact h)
theorem apf{r:Rd}(h:(wo r).2.err=0):r.err=0:=Classical.byContradiction fun hn=>hn (by rw[ape hn]at h;exact h)
theorem aeH{r:Rd}(h:(qR r).2.err=0):(qR r).1<4611686018427387904/\r.rest=wg (qR r).1++(qR r).2.rest:=by
 have h0:=agT h
 unfold qR at h⊢
 rw[if_neg (by simp[h0])]at h⊢
 have hn:num r.rest=((num r.rest).1,(num r.rest).2.1,0):=by rw[<-h]
 exact⟨(akC hn).1,apc hn⟩
theorem ai3{r:Rd}(h:(wo r).2.err=0):(wo r).1.length<4611686018427387904/\r.rest=yZ (wo r).1++(wo r).2.rest:=by
 unfold wo at h⊢
 by_cases h1:(qR r).2.err=0
 .rw[if_neg (by simp[h1])]at h⊢
  by_cases h2:(qR r).2.rest.length<(qR r).1
  .rw[if_pos h2]at h;cases h
  .rw[if_neg h2]at h⊢
   obtain⟨h3,h4⟩:=aeH h1
   have hl:((qR r).2.rest.take (qR r).1).length=(qR r).1:=by simp;omega
   refine⟨by simp only[hl];exact h3,?_⟩
   simp only[yZ,hl]
   rw[List.append_assoc,List.take_append_drop];exact h4
 .rw[if_pos h1]at h;exact absurd h h1
end Wi
namespace Zt
open Go SL Pa Wi
variable{ks ps:List Str}{st x:St}{a b k:Str}{p:Str×Nd}
def Srt(x:St):Prop:=x.Pairwise fun a b=>a.1<b.1
theorem aeI(a:Str):¬ a<a:=List.lt_irrefl a
theorem ahY{c:Str}(h:a<b)(k:b<c):a<c:=List.lt_trans h k
theorem apg(h:a<b):a<=b:=List.le_of_lt h
theorem ahZ(h:a<=b)(hn:a≠b):a<b:=by
 rcases List.le_iff_lt_or_eq.1 h with h | h
 .exact h
 .exact absurd h hn
theorem aix:¬ a<=b↔b<a:=List.not_le
theorem Srt.nodup(h:Srt x):(x.map (·.1)).Nodup:=by
 unfold List.Nodup
 rw[List.pairwise_map]
 refine List.Pairwise.imp (R:=fun(a b:Str×Nd)=>a.1<b.1) (fun{a b} (h:a.1<b.1) (e:a.1=b.1)=>aeI b.1 (by rw[e]at h;exact h)) h
theorem qW(hk:(st.map (·.1)).Nodup){n:Nd}:st.lookup k=some n↔(k,n)∈st:=by
 induction st with
 | nil=>simp
 | cons p st ih=>
  obtain⟨p,m⟩:=p
  simp only[List.map_cons,List.nodup_cons]at hk
  rw[List.lookup_cons]
  by_cases c:k=p
  .subst c
   rw[show(k == k)=true by simp]
   simp only[List.mem_cons,Prod.mk.injEq,true_and]
   refine⟨fun h=> .inl (Option.some.inj h).symm,fun h=>?_⟩
   rcases h with h | h
   .rw[h]
   .exact absurd (List.mem_map.2 ⟨_,h,rfl⟩) hk.1
  .rw[show(k == p)=false by simpa using c]
   simp only[List.mem_cons,Prod.mk.injEq,c,false_and,false_or]
   exact ih hk.2
theorem adO{a b:St}(h:a.Perm b)(hk:(a.map (·.1)).Nodup)(k:Str):a.lookup k=b.lookup k:=by
 have hk':(b.map (·.1)).Nodup:=(h.map _).nodup_iff.1 hk
 cases e:a.lookup k with
 | none=>
  cases e':b.lookup k with
  | none=>rfl
  | some n=>rw[(qW hk).2 (h.mem_iff.2 ((qW hk').1 e'))]at e;cases e
 | some n=>exact((qW hk').2 (h.mem_iff.1 ((qW hk).1 e))).symm
theorem aqC:∀ {x y:List Str},x.Pairwise (· < ·)->y.Pairwise (· < ·)->x.Perm y->x=y:=by
 intro x
 induction x with
 | nil=>intro y _ _ h;exact h.nil_eq
 | cons a x ih=>
  intro y hx hy h
  cases y with
  | nil=>exact absurd h.symm.nil_eq (by simp)
  | cons b y=>
   obtain⟨hx1,hx2⟩:=List.pairwise_cons.1 hx
   obtain⟨hy1,hy2⟩:=List.pairwise_cons.1 hy
   have hab:a=b:=Classical.byContradiction fun hn=>by
    have ha:a∈b::y:=h.mem_iff.1 (by simp)
    have hb:b∈a::x:=h.mem_iff.2 (by simp)
    rcases List.mem_cons.1 ha with e | ha
    .exact hn e
    rcases List.mem_cons.1 hb with e | hb
    .exact hn e.symm
    exact aeI _ (ahY (hy1 a ha) (hx1 b hb))
   subst hab
   rw[ih hx2 hy2 ((List.perm_cons a).1 h)]
theorem akD(h:ks.Pairwise (· <= ·))(hn:ks.Nodup):ks.Pairwise (· < ·):=by
 exact(h.and hn).imp fun{a b} h=>ahZ h.1 h.2
def srt(st:St):St:=st.mergeSort fun a b=>decide (a.1<=b.1)
theorem vr(st:St):(srt st).Perm st:=List.mergeSort_perm _ _
theorem akE(hk:(st.map (·.1)).Nodup):Srt (srt st):=by
 have h1:(srt st).Pairwise fun a b=>decide (a.1<=b.1)=true:=List.pairwise_mergeSort (le:=fun(a b:Str×Nd)=>decide (a.1<=b.1))
  (fun a b c h k=>by simp only[decide_eq_true_eq]at *;exact List.le_trans h k) (fun a b=>by
   simp only[Bool.or_eq_true,decide_eq_true_eq]
   exact List.le_total a.1 b.1) st
 have h2:((srt st).map (·.1)).Nodup:=((vr st).map _).nodup_iff.2 hk
 unfold List.Nodup at h2
 rw[List.pairwise_map]at h2
 exact(h1.and h2).imp fun{a b} h=>ahZ (by simpa using h.1) h.2
theorem agU(hk:(st.map (·.1)).Nodup)(h:ks.Perm (st.map (·.1)))(hs:ks.Pairwise (· <= ·)):ks=(srt st).map (·.1):=by
 refine aqC (akD hs (h.nodup_iff.2 hk)) ?_ (h.trans ((vr st).map _).symm)
 rw[List.pairwise_map]
 exact akE hk
def jO(n:Nd):Bool:=qQ n.ver && qQ n.ctr && qQ n.own
def afT(p:Str×Nd):Str:=yZ p.1++(yZ p.2.data++(wg p.2.ver.toNat++(wg p.2.ctr.toNat++wg p.2.own.toNat)))
def abE(x:St):Str:=x.flatMap afT
def akF(st:St):Str:=if(srt st).all (fun p=>jO p.2)then abE (srt st)else []
def afU(n:Nd):Nd:={n with kids:=i64.wrap (n.kids+1)}
def lay(st:St)(last p:Str)(n:Nd):Option St:=
 if parts p=none\/p<=last\/256<n.data.length\/10000000000<n.ctr\/(n.own≠0/\0<n.ctr)then none
 else if last=[]then(if p=[47]/\n.data=[]/\n.ver=0/\n.own=0 then some (st++[(p,n)])else none)
 else match qB p with
  | none=>none
  | some u=>match st.lookup u with
   | none=>none
   | some m=>if m.own≠0 then none else some (wi st u afU++[(p,n)])
def vL(r:Rd):(Str×Nd)×Rd:=
 let a:=wo r
 let b:=wo a.2
 let c:=qR b.2
 let d:=qR c.2
 let e:=qR d.2
 ((a.1,⟨c.1,d.1,e.1,0,b.1⟩),e.2)
def ah0:Nat->Rd->St->Str->Option St
 | 0,_,_,_=>none
 | f+1,r,st,last=>
  if r.rest=[]/\last≠[]then some st
  else if(vL r).2.err≠0 then none
  else match lay st last (vL r).1.1 (vL r).1.2 with
   | none=>none
   | some st'=>ah0 f (vL r).2 st' (vL r).1.1
def dec(b:Str):Option St:=
 match ah0 (b.length+1) ⟨b,0⟩ [] []with
 | none=>none
 | some st=>if st.all fun p=>decide (p.2.kids<=p.2.ctr)then some st else none
theorem aph(h1:p.1.length<4611686018427387904)(h2:p.2.data.length<4611686018427387904)(h3:jO p.2=true)(r:Str):
  vL ⟨afT p++r,0⟩=((p.1,{p.2 with kids:=0}),⟨r,0⟩):=by
 unfold jO qQ at h3
 simp only[Bool.and_eq_true,decide_eq_true_eq]at h3
 obtain⟨⟨⟨v0,v1⟩,c0,c1⟩,o0,o1⟩:=h3
 unfold vL afT
 simp only[List.append_assoc]
 rw[alf h1,alf h2,agS (by omega),agS (by omega),agS (by omega)]
 simp only[Int.toNat_of_nonneg v0,Int.toNat_of_nonneg c0,Int.toNat_of_nonneg o0]
def pre(a:St):St:=a.map fun p=>(p.1,{p.2 with kids:=(kc (a.map (·.1)) p.1:Nat)})
theorem api(h:a <+: b)(hn:a≠b):a<b:=by
 obtain⟨t,rfl⟩:=h
 induction a with
 | nil=>
  cases t with
  | nil=>exact absurd rfl hn
  | cons c t=>exact List.nil_lt_cons c t
 | cons c a ih=>
  rw[List.cons_append,List.cons_lt_cons_iff]
  exact .inr ⟨rfl,ih fun h=>hn (by rw[List.cons_append,<-h])⟩
theorem alg{p u:Str}(h:qB p=some u):u<p:=by
 have hne:=ad4 h
 refine api ?_ hne.symm
 unfold qB at h
 cases hp:parts p with
 | none=>rw[hp]at h;cases h
 | some ps=>
  rw[hp]at h
  simp only at h
  split at h
  .cases h
  .rename_i hps
   cases h
   obtain⟨hl,hg⟩:=wd.1 hp
   rw[hl]
   have e:=List.dropLast_concat_getLast hps
   conv=>rhs;rw[<-e,abs]
   by_cases h0:ps.dropLast=[]
   .rw[h0,if_pos rfl]
    exact⟨ps.getLast hps,rfl⟩
   .rw[if_neg h0]
    exact List.prefix_append _ _
structure ah1(st:St):Prop where
 inv:Inv st
 nums:∀ k n,st.lookup k=some n->jO n=true/\(n.own≠0->n.ctr=0)
 rt:∀ n,st.lookup [47]=some n->n.data=[]/\n.ver=0/\n.own=0
theorem aqD{a b:List Str}(h:a.Perm b)(u:Str):kc a u=kc b u:=by unfold kc;exact h.countP_eq _
theorem amo{a b:St}(h:a.Perm b)(hi:Inv a):Inv b:=by
 have hl:=adO h hi.keys
 refine⟨(h.map _).nodup_iff.1 hi.keys,?_,fun k n hk=>?_,fun k n hk hne=>?_,fun k n hk=>?_,fun k n hk=>?_,fun k n hk=>?_⟩
 .obtain⟨n,hn⟩:=hi.root;exact⟨n,by rw[<-hl];exact hn⟩
 .exact hi.path k n (by rw[hl];exact hk)
 .obtain⟨u,m,h1,h2,h3⟩:=hi.up k n (by rw[hl];exact hk) hne
  exact⟨u,m,h1,by rw[<-hl];exact h2,h3⟩
 .rw[hi.kids k n (by rw[hl];exact hk),aqD (h.map _)]
 .exact hi.ctr k n (by rw[hl];exact hk)
 .exact hi.data k n (by rw[hl];exact hk)
theorem alh{a b:St}(h:a.Perm b)(hi:ah1 a):ah1 b:=by
 have hl:=adO h hi.inv.keys
 exact⟨amo h hi.inv,fun k n hk=>hi.nums k n (by rw[hl];exact hk),fun n hk=>hi.rt n (by rw[hl];exact hk)⟩
theorem aom(a:St)(u:Str):(pre a).lookup u=(a.lookup u).map fun n=>{n with kids:=(kc (a.map (·.1)) u:Nat)}:=by
 unfold pre
 generalize a.map (·.1)=ks
 induction a with
 | nil=>rfl
 | cons p a ih=>
  obtain⟨p,m⟩:=p
  rw[List.map_cons,List.lookup_cons,List.lookup_cons]
  by_cases c:u=p
  .subst c
   rw[show(u == u)=true by simp];try rfl
  .rw[show(u == p)=false by simpa using c];exact ih
def acg(a:St):Str:=match a.getLast? with
 | none=>[]
 | some p=>p.1
theorem aon(a:St)(p:Str×Nd):acg (a++[p])=p.1:=by unfold acg;simp
theorem aiy{p:Str}(h:parts p=some ps):p≠[]:=fun e=>by
 obtain⟨hl,_⟩:=wd.1 h
 obtain⟨r,hr⟩:=aiw ps
 rw[e,hr]at hl;cases hl
theorem anB(h:parts k=some ps):([47]:Str)<=k:=by
 obtain⟨hl,_⟩:=wd.1 h
 obtain⟨r,hr⟩:=aiw ps
 rw[hl,hr,List.cons_le_cons_iff]
 exact .inr ⟨rfl,List.nil_le _⟩
theorem atP(ks:List Str)(u:Str):kc ks u<=ks.length:=by unfold kc;exact List.countP_le_length
theorem aqE{a b:St}(hs:Srt x)(hi:ah1 x)(hn:x.length<=4611686018427387904)(he:a++p::b=x):lay (pre a) (acg a) p.1 {p.2 with kids:=0}=some (pre (a++[p])):=by
 have hin:p∈x:=by rw[<-he];simp
 have hlk:=(qW hs.nodup (k:=p.1) (n:=p.2)).2 hin
 obtain⟨ps,hps⟩:=hi.inv.path _ _ hlk
 have hctr:=hi.inv.ctr _ _ hlk
 have hdata:=hi.inv.data _ _ hlk
 have hnum:=hi.nums _ _ hlk
 have hs':=hs
 rw[<-he]at hs'
 obtain⟨hsa,hsb,hab⟩:=List.pairwise_append.1 hs'
 have hall:∀ q∈a,q.1<p.1:=fun q hq=>hab q hq p (by simp)
 have hlast:¬ p.1<=acg a:=by
  rw[aix]
  unfold acg
  cases e:a.getLast? with
  | none=>
   cases hp:p.1 with
   | nil=>exact absurd hp (aiy hps)
   | cons c r=>exact List.nil_lt_cons c r
  | some q=>exact hall q (List.mem_of_getLast? e)
 have hkc0:kc (a.map (·.1)) p.1=0:=Classical.byContradiction fun h=>by
  obtain⟨k,hk,hp⟩:=apa h
  obtain⟨q,hq,rfl⟩:=List.mem_map.1 hk
  exact aeI _ (ahY (hall q hq) (alg hp))
 have hkc1:kc [p.1] p.1=0:=by
  rw[ajZ,if_neg (fun h=>ad4 h rfl)]
 have hnd:(a.map (·.1)).Nodup:=Srt.nodup hsa
 unfold lay
 rw[if_neg (by
  rintro(h | h | h | h | h)
  .rw[hps]at h;cases h
  .exact hlast h
  .simp only at h;omega
  .simp only at h;omega
  .exact absurd h.2 (by have:=hnum.2 h.1;simp only;omega))]
 by_cases ha:a=[]
 .subst ha
  rw[if_pos (show acg []=[]from rfl)]
  have hroot:p.1=[47]:=by
   obtain⟨n0,hn0⟩:=hi.inv.root
   have h0:=(qW hs.nodup).1 hn0
   rw[<-he]at h0
   rcases List.mem_cons.1 h0 with e | h0
   .rw[<-e]
   .have h1:=(List.pairwise_cons.1 hsb).1 _ h0
    exact absurd (anB hps) (by rw[aix];exact h1)
  have hrt:=hi.rt p.2 (by rw[<-hroot];exact hlk)
  rw[if_pos ⟨hroot,hrt⟩]
  simp only[pre,List.map_nil,List.nil_append,List.map_cons]
  rw[hkc1];try rfl
 .have hlne:acg a≠[]:=by
   unfold acg
   cases e:a.getLast? with
   | none=>simp at e;exact absurd e ha
   | some q=>
    have hq:q∈x:=by rw[<-he];exact List.mem_append_left _ (List.mem_of_getLast? e)
    obtain⟨qs,hqs⟩:=hi.inv.path _ _ ((qW hs.nodup (k:=q.1) (n:=q.2)).2 hq)
    exact aiy hqs
  rw[if_neg hlne]
  have hne:p.1≠[47]:=fun e=>by
   obtain⟨q,hq⟩:=List.exists_mem_of_ne_nil a ha
   have h1:=hall q hq
   have hq':q∈x:=by rw[<-he];exact List.mem_append_left _ hq
   obtain⟨qs,hqs⟩:=hi.inv.path _ _ ((qW hs.nodup (k:=q.1) (n:=q.2)).2 hq')
   rw[e]at h1
   exact absurd (anB hqs) (by rw[aix];exact h1)
  obtain⟨u,mm,hu,hum,hown⟩:=hi.inv.up _ _ hlk hne
  rw[hu]
  have hua:(u,mm)∈a:=by
   have h0:=(qW hs.nodup).1 hum
   rw[<-he]at h0
   rcases List.mem_append.1 h0 with h | h
   .exact h
   .rcases List.mem_cons.1 h with e | h
    .rw[<-e]at hu;exact absurd rfl (ad4 hu)
    .have h1:=(List.pairwise_cons.1 hsb).1 _ h
     exact absurd (ahY h1 (alg hu)) (aeI _)
  have hul:=(qW hnd).2 hua
  simp only
  rw[aom,hul]
  simp only[Option.map_some]
  rw[if_neg (by simpa using hown)]
  refine congrArg some ?_
  unfold pre
  rw[List.map_append,List.map_append,List.map_cons,List.map_nil]
  congr 1
  .unfold wi
   rw[List.map_map]
   refine List.map_congr_left fun q hq=>?_
   simp only[Function.comp_apply]
   rw[aga,ajZ,hu]
   by_cases e:q.1=u
   .rw[if_pos e,e,if_pos rfl]
    unfold afU
    simp only
    have hkl:=atP (a.map (·.1)) u
    have hxl:a.length<x.length:=by rw[<-he];simp
    rw[List.length_map]at hkl
    rw[wb (by omega) (by omega)]
    try rfl
   .rw[if_neg e,if_neg (fun h=>e (Option.some.inj h).symm)];try rfl
  .rw[List.map_cons,List.map_nil,aga,hkc0,hkc1];try rfl
theorem anC(p:Str×Nd):afT p≠[]:=by
 unfold afT yZ
 intro h
 simp at h
 exact akB _ h.1
theorem aqF(hs:Srt x)(hi:ah1 x)(hn:x.length<=4611686018427387904):∀ (b a:St) (f:Nat),a++b=x->(abE b).length<f->ah0 f ⟨abE b,0⟩ (pre a) (acg a)=some (pre x):=by
 have hlen:∀ p∈x,p.1.length<4611686018427387904/\p.2.data.length<4611686018427387904:=fun p hp=>by
  have hlk:=(qW hs.nodup (k:=p.1) (n:=p.2)).2 hp
  obtain⟨ps,hps⟩:=hi.inv.path _ _ hlk
  obtain⟨hl,hg⟩:=wd.1 hps
  have:=(aoi hg).2
  have:=hi.inv.data _ _ hlk
  rw[hl];omega
 intro b
 induction b with
 | nil=>
  intro a f he hf
  rw[List.append_nil]at he
  subst he
  cases f with
  | zero=>omega
  | succ f=>
   unfold ah0
   have hane:acg a≠[]:=by
    obtain⟨n0,hn0⟩:=hi.inv.root
    have h0:=(qW hs.nodup).1 hn0
    unfold acg
    cases e:a.getLast? with
    | none=>simp at e;rw[e]at h0;cases h0
    | some q=>
     obtain⟨qs,hqs⟩:=hi.inv.path _ _ ((qW hs.nodup (k:=q.1) (n:=q.2)).2 (List.mem_of_getLast? e))
     exact aiy hqs
   rw[if_pos ⟨rfl,hane⟩]
 | cons p b ih=>
  intro a f he hf
  cases f with
  | zero=>omega
  | succ f=>
   have hp:p∈x:=by rw[<-he];simp
   have hlk:=(qW hs.nodup (k:=p.1) (n:=p.2)).2 hp
   have e1:abE (p::b)=afT p++abE b:=by unfold abE;rw[List.flatMap_cons]
   unfold ah0
   rw[e1]
   rw[if_neg (by
    rintro⟨h,_⟩
    simp only[List.append_eq_nil_iff]at h
    exact anC p h.1)]
   rw[aph (hlen p hp).1 (hlen p hp).2 (hi.nums _ _ hlk).1]
   simp only[ne_eq,not_true_eq_false,if_false]
   rw[aqE hs hi hn he]
   simp only
   have:=ih (a++[p]) f (by rw[<-he];simp) (by
    rw[e1,List.length_append]at hf
    have:=List.length_pos_iff.2 (anC p)
    omega)
   rw[aon]at this
   exact this
theorem asV(hs:Srt x)(hi:Inv x):pre x=x:=by
 unfold pre
 conv=>rhs;rw[<-List.map_id x]
 refine List.map_congr_left fun p hp=>?_
 have:=hi.kids _ _ ((qW hs.nodup (k:=p.1) (n:=p.2)).2 hp)
 obtain⟨k,n⟩:=p
 simp only at this⊢
 rw[<-this];try rfl
theorem asd(hs:Srt x)(hi:ah1 x)(hn:x.length<=4611686018427387904):dec (abE x)=some x:=by
 unfold dec
 have:=aqF hs hi hn x [] ((abE x).length+1) rfl (by omega)
 rw[show acg []=[]from rfl,show pre []=[]from rfl,asV hs hi.inv]at this
 rw[this]
 simp only
 rw[if_pos]
 rw[List.all_eq_true]
 intro p hp
 have:=(hi.inv.ctr _ _ ((qW hs.nodup (k:=p.1) (n:=p.2)).2 hp)).1
 simpa using this
theorem anD(hi:ah1 st):akF st=abE (srt st):=by
 unfold akF
 rw[if_pos]
 rw[List.all_eq_true]
 intro p hp
 have h3:=alh (vr st).symm hi
 exact(h3.nums _ _ ((qW (akE hi.inv.keys).nodup (k:=p.1) (n:=p.2)).2 hp)).1
theorem amp(hi:ah1 st)(hn:st.length<=4611686018427387904):dec (akF st)=some (srt st):=by
 rw[anD hi]
 exact asd (akE hi.inv.keys) (alh (vr st).symm hi) (by rw[(vr st).length_eq];exact hn)
end Zt
namespace Zt
open Go SL G Pa Go.Maps Go.Sort Go.Shelf Go.RowKit
variable{B:World}{ro I I':AH}{tag tag':Nat->Nat}
variable{m:KV}{M b c:Nat}{Q:Sl->AH->Prop}
theorem anE:∀ (st:St) (bs:List Nat),bs.length=st.length->(kv st bs).map (·.1)=st.map (·.1):=by
 intro st
 induction st with
 | nil=>intro bs h;cases bs<;>rfl
 | cons p st ih=>
  intro bs h
  cases bs with
  | nil=>simp at h
  | cons b bs=>obtain⟨p,n⟩:=p;unfold kv;rw[List.map_cons,ih bs (by simpa using h)];try rfl
theorem ali(st:St)(bs:List Nat)(h:bs.length=st.length):(kv st bs).length=st.length:=by
 have:=congrArg List.length (anE st bs h)
 simpa using this
abbrev RT:Value->Option (DataW Unit×List MemPlace):=fun _=>some (.nil,[])
theorem aub{w:World}(hm:zO tag I c b m)(hw:an8 ro I w)(hs:SL.Sep ro I)(hnd:(m.map (·.1)).Nodup)(hl:∀ p∈m,p.1.length<=128)(hn:m.length<=4398046511104):
  ∃D:DataW Unit,w.ownsMap prog 9 RT b m.length D/\Maps.size D=m.length/\(strKeys D).Perm (m.map (·.1)):=by
 obtain⟨es,clock,hb,he,hbn⟩:=hm.obj
 have hwb:=hw b _ (by unfold SL.rd;rw[hs b _ hb];exact hb)
 have hsz:es.size=m.length:=by have:=congrArg List.length he;simpa using this
 have hkey:∀ (i:Nat) (h1:i<es.toList.length),∃h2:i<m.length,(es.toList[i]).key= .string (S m[i].1):=fun i h1=>by
  have h2:i<m.length:=by rw[<-hsz];simpa using h1
  refine⟨h2,?_⟩
  have h:=congrArg (·[i]?) he
  simp only[List.getElem?_map,List.getElem?_eq_getElem h1,List.getElem?_eq_getElem h2,Option.map_some]at h
  exact congrArg Prod.fst (Option.some.inj h)
 have hko:∀ (i:Nat) (h1:i<es.toList.length) (h2:i<m.length),WideElems.rd prog 9 RT es.toList[i]=some (.string m[i].1,.nil):=fun i h1 h2=>by
  obtain⟨_,hk⟩:=hkey i h1
  have hlen:=hl _ (List.getElem_mem h2)
  unfold WideElems.rd
  rw[hk]
  have:keyOf prog 9 (.string (S m[i].1))=some (.string m[i].1):=by
   unfold keyOf
   rw[u9]
   show mapKey prog 9 (.string (S m[i].1))=_
   unfold mapKey
   rw[u9]
   show(if(S m[i].1).size<=maxLen then _ else _)=_
   rw[if_pos (by simp only[af5,maxLen];omega)];rfl
  rw[this];try rfl
 refine⟨.map ((es.toList.map (WideElems.rg prog 9 RT)).foldr DataW.insert []),⟨es,clock,hwb,⟨by rw[hsz];simp only[maxLen];omega,⟨hbn.lt,hbn.nd,?_⟩,?_⟩,by omega,rfl⟩,?_,?_⟩
 .have:es.toList.map (·.key)=(m.map (·.1)).map fun k=>Value.string (S k):=by
   apply List.ext_getElem
   .simp[hsz]
   .intro i h1 h2
    simp only[List.getElem_map]
    obtain⟨_,h⟩:=hkey i (by simpa using h1)
    exact h
  rw[this]
  refine List.Pairwise.map _ (fun a b hab e=>hab ?_) hnd
  simpa [ab9]using e
 .intro x hx
  obtain⟨i,hi,rfl⟩:=List.getElem_of_mem hx
  obtain⟨h2,_⟩:=hkey i hi
  exact⟨_,hko i hi h2⟩
 .show((es.toList.map (WideElems.rg prog 9 RT)).foldr DataW.insert []).length=m.length
  rw[DataW.length_sorted];simp[hsz]
 .show(((es.toList.map (WideElems.rg prog 9 RT)).foldr DataW.insert []).map fun p=>strOf p.1).Perm _
  refine((WideShapes.sorted_perm _).map _).trans ?_
  rw[List.map_map]
  have:es.toList.map ((fun p:Lit×DataW Unit=>strOf p.1) ∘ WideElems.rg prog 9 RT)=m.map (·.1):=by
   apply List.ext_getElem
   .simp[hsz]
   .intro i h1 h2
    simp only[List.getElem_map,Function.comp]
    have h3:i<es.toList.length:=by simpa using h1
    obtain⟨h4,_⟩:=hkey i h3
    unfold WideElems.rg
    rw[hko i h3 h4];try rfl
  rw[this]
theorem ase{Q:Value->AH->Prop}(hQ:∀ gb tag' I',(∀R,qe R ro tag I tag' I')->Row tag' I' 0 237 ⟨some ⟨gb,0,none⟩,1,1⟩ [.map (some M)]->Q (.func (.func 196) #[] #[.pointer (some ⟨gb,0,none⟩)]) I'):
  abT B ro (some M) I Q:=by
 refine qc.of_calls fun w hw hsep=>?_
 refine(callsIn_wide.1 (Tryz.maps_Keys_137 (some M) w)).mono ?_
 rintro e w' ⟨he,rfl⟩
 obtain⟨N,tag',hN,hst,hrow⟩:=af6 (tag:=tag) (w':=w.alloc (.cells #[.map (some M)] 237)) 0 hw hsep (Nat.le_refl w.heap.size) (heap_alloc_new w _)
 exact⟨_,N,he,(Below.refl _ w).alloc (Nat.le_refl _) _,hN,_,rfl,hQ _ tag' _ hst (hrow _ _ _ rfl rfl (Nat.le_refl _) rfl)⟩
theorem apj{gb:Nat}(r:Nat)(hg:Row tag I 0 237 ⟨some ⟨gb,0,none⟩,1,1⟩ [.map (some b)])(hm:zO tag I c b m)(hnd:(m.map (·.1)).Nodup)(hl:∀ p∈m,p.1.length<=128)(hn:m.length<=4398046511104)
  (hQ:∀ (s:Sl) (tag':Nat->Nat) (I':AH) (ks:List Str),(∀R,qe R ro tag I tag' I')->ks.Perm (m.map (·.1))->ks.Pairwise (· <= ·)->Row tag' I' r 9 s (ks.map Pa.vS)->Q s I'):abS B ro (.func (.func 196) #[] #[.pointer (some ⟨gb,0,none⟩)]) I Q:=by
 refine qc.of_calls fun w hw hsep=>?_
 obtain⟨D,hown,hsz,hperm⟩:=aub hm hw hsep hnd hl hn
 have hcell:w.cell? ⟨gb,0,none⟩=some (.map (some b)):=by
  have h1:=Row.cell1 hg hsep
  unfold qa at h1
  rw[cell?_eq]
  cases hr:SL.rd ro I gb with
  | none=>simp only at h1;rw[hr]at h1;cases h1
  | some o=>simp only at h1;rw[hw gb o hr];rw[hr]at h1;exact h1
 have hlt:gb<w.heap.size:=by
  rw[cell?_eq]at hcell
  cases hh:w.heap[gb]? with
  | none=>simp only at hcell;rw[hh]at hcell;cases hcell
  | some o=>exact wT hh
 have hseq:SeqGives Fence.wide 2 prog 196 #[.pointer (some ⟨gb,0,none⟩)] encStr (fun ss=>ss.Perm (strKeys D)) (Maps.size D) w:=
  AnyZ.keys_gives (ρ:=aiZ) {anr with} Fence.wide _ trivial rfl (by omega) gb b m.length D w hlt hcell hown
 have hsort:=AnyZ.sorted_in ao0 Fence.wide 5 trivial trivial trivial trivial rfl (by omega) (Tryz.sorts136 _) (enters_of func195 (by kernel_rfl) rfl) 196 #[.pointer (some ⟨gb,0,none⟩)] trivial (enters_of func196 (by kernel_rfl) rfl) _ _ (by rw[hsz];simp only[maxLen];omega) (by rw[hsz];omega) _ hseq
 refine(callsIn_wide.1 hsort).mono ?_
 rintro e w' ⟨v,ss,he,hS,hrow,hnil,hb⟩
 have hpair:(ss.mergeSort (fun x y=>decide (x<=y))).Pairwise (· <= ·):=by
  have:=List.pairwise_mergeSort (le:=fun x y:List UInt8=>decide (x<=y)) (fun a b c h1 h2=>by simp at *;exact List.le_trans h1 h2) (fun a b=>by simp;exact List.le_total a b) ss
  simpa using this
 have hpm:(ss.mergeSort (fun x y=>decide (x<=y))).Perm (m.map (·.1)):=(List.mergeSort_perm _ _).trans (hS.trans hperm)
 have henc:∀ l:List (List UInt8),l.map encStr=l.map Pa.vS:=fun l=>rfl
 rcases hrow with⟨hlen,⟨rfl,h0⟩ | ⟨g,cap,cur,rfl,hbase,hgb,r1,r2,r3,r4⟩⟩
 .have h0':ss=[]:=List.eq_nil_of_length_eq_zero h0
  subst h0'
  refine⟨_,fun _=>none,he,hb,aje.none _ _,⟨none,0,0⟩,rfl,?_⟩
  rw[aaK]
  exact hQ _ tag I _ (fun _=>qe.refl hsep) hpm hpair (by simpa using Row.nil r 9)
 .obtain⟨N,tag',hN,hst,hrow⟩:=af6 (tag:=tag) r hw hsep hbase hgb
  refine⟨_,N,he,hb,hN,⟨some ⟨g,0,none⟩,ss.length,cap⟩,rfl,?_⟩
  refine hQ _ tag' _ _ hst hpm hpair (hrow _ _ _ (by simp) (by rw[r3,Nat.mul_one]) r1 ?_)
  rw[Nat.mul_one]at r4
  rw[r4];try rfl
theorem agV{r T q:Nat}{bs:List Nat}{st:St}(h:qZ tag I r T M bs st)(hl:∀ p∈st,p.1.length<=128)(hn:st.length<=4398046511104)
  (hQ:∀ (s:Sl) (tag':Nat->Nat) (I':AH) (ks:List Str),(∀R,qe R ro tag I tag' I')->ks.Perm (st.map (·.1))->ks.Pairwise (· <= ·)->Row tag' I' q 9 s (ks.map Pa.vS)->Q s I'):xo B ro (some ⟨T,0,none⟩) I Q:=by
 refine ahv fun hs=>?_
 unfold aa6
 refine⟨_,rfl,_,Row.cell1 h.cell hs,?_⟩
 refine ase (tag:=tag) fun gb tag1 I1 st1 r1=>?_
 have hk:=anE st bs h.len
 refine apj q r1 (h.map.keep (st1 [])) (by rw[hk];exact h.keys) (fun p hp=>?_) (by rw[ali _ _ h.len];exact hn) fun s tag' I' ks st2 hp hs' hr=>?_
 .have:p.1∈(kv st bs).map (·.1):=List.mem_map.2 ⟨p,hp,rfl⟩
  rw[hk]at this
  obtain⟨x,hx,e⟩:=List.mem_map.1 this
  rw[<-e];exact hl x hx
 .rw[hk]at hp
  exact hQ s tag' I' ks (fun R=>(st1 R).trans (st2 R)) hp hs' hr
end Zt
namespace Zt
open Go SL G Pa
variable{B:World}{ro I I':AH}{tag tag':Nat->Nat}
variable{p:ByteArray}{bs:List Nat}{M T r x:Nat}{st:St}
theorem agb{Q:Sl->Int->Int->Int->Int->Int->AH->Prop}(g:wV ro)(hr:r<64)(hr6:r≠6)(hr0:r≠0)(h:qZ tag I r T M bs st)(hdl:∀ p n,st.lookup p=some n->n.data.length<=256)
  (hbad:parts (L p)=none->∀ tag' I',zF 0 ro tag I tag' I'->Q ⟨none,0,0⟩ 0 0 0 0 20 I') (hmiss:∀ ps,parts (L p)=some ps->st.lookup (L p)=none->∀ tag' I',zF 0 ro tag I tag' I'->Q ⟨none,0,0⟩ 0 0 0 0 70 I')
  (hhit:∀ n,st.lookup (L p)=some n->∀ s tag' I',zF 0 ro tag I tag' I'->Row tag' I' 6 5 s (n.data.map vU)->Q s n.ver n.ctr n.own n.kids 0 I'):xj B ro (some ⟨T,0,none⟩) p I Q:=by
 refine aiK fun hs=>?_
 unfold acv
 refine qj (tag:=tag) 0 hs fun x tag1 I1 st1 r1=>?_
 have hA:=h.keep (st1 [])
 have hs1:=(st1 []).sep
 have err:∀ e:Int,(∀tag' I',zF 0 ro tag I tag' I'->Q ⟨none,0,0⟩ 0 0 0 0 e I')->stN ⟨x,0,none⟩ (fun I=> ∃(x5_4a:Int) (x5_4b:Int) (x5_4c:Int) (x5_4d:Int),qg ro I ⟨x,0,none⟩ 0 [.int .i64 x5_4a,.int .i64 x5_4b,.int .i64 x5_4c,.int .i64 x5_4d]/\Q (⟨none,0,0⟩:Sl) x5_4a x5_4b x5_4c x5_4d e I) [.int .i64 0,.int .i64 0,.int .i64 0,.int .i64 0] 0 I1:=by
  intro e he
  refine r1.stAll hs1 rfl (by simp[qh]) fun I2 st2 r2=>?_
  obtain⟨q,hq,hg⟩:=r2.ptr st2.sep (by simp)
  cases hq
  exact⟨0,0,0,0,zu 0 fun j v hj=>by have:=hg j v hj;rwa [Nat.mul_one,<-Nat.zero_add j]at this,he tag1 I2 (((st1 []).c (by simp)).trans (st2.c (by simp)))⟩
 refine akA g hA hs1 (fun hb=>?_) (fun ps hps hl=>?_) (fun ps i b n hps hb hp hl=>?_)
 .rw[if_pos (by decide)]
  exact err 20 (hbad hb)
 .rw[if_pos (by decide)]
  exact err 70 (hmiss ps hps hl)
 .rw[if_neg (by decide)]
  obtain⟨ds,hn,hd⟩:=hA.nodes i b _ hb hp
  obtain⟨ht0,hto⟩:=hn.tagOf
  refine ac1 b ?_
  have hs2:SL.Sep (join ro (SL.one I1 b)) (SL.del I1 b):=hs1.lent
  refine⟨_,rfl,_,rfl,n.ver,n.ctr,n.own,n.kids,zu 0 fun j v hj=>?_,ds,hn.lend hs1 (i:=4) rfl,?_⟩
  .rw[Nat.zero_add,<-Nat.mul_one j]
   have hj4:j<4:=by
    rcases Nat.lt_or_ge j 4 with h' | h'
    .exact h'
    .rw[List.getElem?_eq_none (by simpa using h')]at hj;cases hj
   refine hn.lend hs1 (i:=j) ?_
   rw[<-hj]
   rcases j with _ | _ | _ | _ | j
   .rfl
   .rfl
   .rfl
   .rfl
   .omega
  .have hd1:=hd.del (b:=b) ht0 (by omega)
   have hx1:=r1.del (b:=b) ht0 (by omega)
   refine aba (tag:=tag1) (hd1.read hs2) hs2 ?_ (by simp[qh]) fun s' tag2 I2 st2 r2=>?_
   .have:=hdl _ _ hl;simp;omega
   .have hx2:=hx1.keep (st2 [])
    refine hx2.stAll (st2 []).sep rfl (by simp[qh]) fun I3 st3 r3=>?_
    intro hdj
    have stB:=((st2 [0]).trans st3).back hs1 hdj hto
    have r4:=r3.back (r':=tag1 b) hdj hto
    have r5:=(r2.keep st3).back (r':=tag1 b) hdj hto
    obtain⟨q,hq,hg⟩:=r4.ptr stB.sep (by simp)
    cases hq
    refine⟨n.ver,n.ctr,n.own,n.kids,zu 0 fun j v hj=>by have:=hg j v hj;rwa [Nat.mul_one,<-Nat.zero_add j]at this,?_⟩
    exact hhit n hl s' _ _ (((st1 []).c (by simp)).trans (stB.c (by simp))) r5
theorem asW{s:Str}{K:Value->AH->Prop}(h:acP B ro (S s) ⟨x,0,none⟩ I fun r I=>K (.bool r) I):ac0 prog B ro (.func (.func 85) #[] #[.pointer (some ⟨x,0,none⟩)]) [.string (S s)] I K:=by
 refine⟨85,f85,#[],#[.pointer (some ⟨x,0,none⟩)],rfl,func85,by kernel_rfl,by kernel_rfl,?_⟩
 exact qc.mono h fun v τ ⟨r,e,q⟩=>e▸q
def jx(ks:List Str)(p:Str):List Str:=ks.filterMap fun k=>if qB k=some p then base k else none
theorem am0{q:Nat}{Q:Sl->Int->AH->Prop}(g:wV ro)(hr:r<64)(hr0:r≠0)(hq0:q≠q+1)(h:qZ tag I r T M bs st)(hl:∀ p∈st,∃ps,parts p.1=some ps)(hn:st.length<=4398046511104)
  (hbad:parts (L p)=none->Q ⟨none,0,0⟩ 20 I) (hmiss:∀ ps,parts (L p)=some ps->st.lookup (L p)=none->Q ⟨none,0,0⟩ 70 I)
  (hhit:∀ n,st.lookup (L p)=some n->∀ (s:Sl) (tag':Nat->Nat) (I':AH) (ks:List Str),qe [q] ro tag I tag' I'->ks.Perm (st.map (·.1))->ks.Pairwise (· <= ·)->Row tag' I' q 9 s ((jx ks (L p)).map Pa.vS)->Q s 0 I'):uB B ro (some ⟨T,0,none⟩) p I Q:=by
 refine afR fun hs=>?_
 unfold uE
 refine akA g h hs (fun hb=>?_) (fun ps hps hl'=>?_) (fun ps i b n hps hb hp hl'=>?_)
 .rw[if_pos (by decide)];exact hbad hb
 .rw[if_pos (by decide)];exact hmiss ps hps hl'
 .rw[if_neg (by decide)]
  have h128:∀ p∈st,p.1.length<=128:=fun p hp=>by
   obtain⟨ps,e⟩:=hl p hp
   obtain⟨e1,e2⟩:=wd.1 e
   rw[e1];exact e2.len
  refine agV (q:=q+1) h h128 hn fun s tag2 I2 ks st2 hpm hsrt hr2=>?_
  have hln:s.len=ks.length:=by rw[hr2.len,List.length_map]
  have hkl:ks.length=st.length:=by rw[hpm.length_eq,List.length_map]
  suffices∀m j (so:Sl) tag3 I3,j+m=ks.length->qe [q] ro tag2 I2 tag3 I3->Row tag3 I3 (q+1) 9 s (ks.map Pa.vS)->Row tag3 I3 q 9 so ((jx (ks.take j) (L p)).map Pa.vS)->lfpD (vM B ro p s Q) (so,(j:Int)) I3 from
   this _ 0 ⟨none,0,0⟩ tag2 I2 (Nat.zero_add _) (qe.refl (st2 []).sep) hr2 (Row.nil q 9)
  intro m
  induction m with
  | zero=>
   intro j so tag3 I3 hj st3 hs3 hso
   refine lfpD.intro ?_
   unfold vM
   simp only
   rw[if_neg (by omega)]
   unfold jG
   rw[List.take_of_length_le (by omega)]at hso
   exact hhit n hl' so tag3 I3 ks ((st2 _).trans st3) hpm hsrt hso
  | succ m ih=>
   intro j so tag3 I3 hj st3 hs3 hso
   have hjl:j<ks.length:=by omega
   obtain⟨pp,hpp,_,hget⟩:=Row.sget hs3 st3.sep hjl
   have htake:∀ x,jx (ks.take (j+1)) x=jx (ks.take j) x++jx [ks[j]] x:=fun x=>by
    rw[List.take_succ_eq_append_getElem hjl];unfold jx;rw[List.filterMap_append]
   have hlen:(jx (ks.take j) (L p)).length<=j:=by
    unfold jx
    refine Nat.le_trans (List.length_filterMap_le _ _) ?_
    simp;omega
   refine lfpD.intro ?_
   unfold vM
   simp only
   rw[if_pos (by omega)]
   refine⟨pp,hpp,by omega,by omega,_,hget j hjl,?_⟩
   have skip:qB ks[j]≠some (L p)->vc B ro p s (j:Int) Q (lfpD (vM B ro p s Q)) so I3:=fun hne=>by
    unfold vc
    rw[Pa.inc j (by omega)]
    refine ih (j+1) so tag3 I3 (by omega) st3 hs3 ?_
    rw[htake,show jx [ks[j]] (L p)=[] by simp[jx,hne],List.append_nil];exact hso
   refine ad3 g (fun hnone=>?_) (fun u hu=>?_)
   .rw[if_neg (by simp)]
    exact skip (by rw[L_S]at hnone;rw[hnone];simp)
   .rw[L_S]at hu
    by_cases hup:u=L p
    .rw[if_pos ⟨rfl,by rw[hup,S_L]⟩]
     have hbase:∃ x,base ks[j]=some x:=by
      unfold qB at hu
      unfold base
      cases hq:parts ks[j]with
      | none=>rw[hq]at hu;cases hu
      | some qs=>
       rw[hq]at hu
       simp only at hu⊢
       split at hu
       .cases hu
       .rename_i hne
        exact⟨_,List.getLast?_eq_some_getLast hne⟩
     obtain⟨x,hx⟩:=hbase
     refine ar0 g (fun hnone=>by rw[L_S,hx]at hnone;cases hnone) (fun y hy=>?_)
     rw[L_S,hx]at hy
     cases hy
     refine qj (tag:=tag3) 0 st3.sep fun c tag4 I4 st4 r4=>?_
     refine afH (hso.keep (st4 [])) (st4 []).sep t25 ty9 rfl rfl (Row.cell1 r4 (st4 []).sep) rfl (by rw[List.length_map];omega) (by decide) fun s' tag5 I5 st5 r5=>?_
     refine⟨s',rfl,?_⟩
     unfold vc
     rw[Pa.inc j (by omega)]
     refine ih (j+1) s' tag5 I5 (by omega) (st3.trans ((st4 _).trans st5)) ((hs3.keep (st4 [])).keep st5) ?_
     rw[htake,show jx [ks[j]] (L p)=[x] by simp[jx,hu,hup,hx],List.map_append]
     exact r5
    .rw[if_neg (fun h'=>hup (by rw[<-h'.2,L_S]))]
     exact skip (by rw[hu];intro h';exact hup (Option.some.inj h'))
theorem acR{ψ:AH}(g:wV ro):wV (join ro ψ):=by
 obtain⟨m,o,h1,h2⟩:=g.maxlen
 exact⟨⟨m,o,kU h1,h2⟩,fun w hw=>g.tab w fun b o hb=>hw b o (kU hb)⟩
end Zt
namespace Zt
open Go SL Pa Wi
theorem ai4(st:St)(p d:Str)(o:Int)(seq:Bool):(∃e,e≠0/\wt st p d o seq=(st,[],e))\/
  ∃q u n,wt st p d o seq=(wi (st++[(q,⟨0,0,o,0,d⟩)]) u jw,q,0)/\st.lookup u=some n/\n.own=0/\¬ 9999999999<n.ctr/\st.lookup q=none/\qB q=some u/\d.length<=256/\0<=o/\o<=4611686018427387903:=by
 unfold wt
 cases hp:qB p with
 | none=>exact .inl ⟨20,by decide,rfl⟩
 | some u=>
  simp only
  by_cases h1:256<d.length
  .rw[if_pos h1];exact .inl ⟨75,by decide,rfl⟩
  rw[if_neg h1]
  by_cases h2:o<0\/4611686018427387903<o
  .rw[if_pos h2];exact .inl ⟨10,by decide,rfl⟩
  rw[if_neg h2]
  cases hn:st.lookup u with
  | none=>exact .inl ⟨70,by decide,rfl⟩
  | some n=>
   simp only
   by_cases h3:n.own≠0
   .rw[if_pos h3];exact .inl ⟨74,by decide,rfl⟩
   rw[if_neg h3]
   by_cases h4:9999999999<n.ctr
   .rw[if_pos h4];exact .inl ⟨76,by decide,rfl⟩
   rw[if_neg h4]
   have fin:∀ q,qB q=some u->(∃e,e≠0/\(if(st.lookup q).isSome=true then(st,([]:Str),(71:Int))else(wi (st++[(q,⟨0,0,o,0,d⟩)]) u jw,q,0))=(st,[],e))\/
     ∃q' u' n',(if(st.lookup q).isSome=true then(st,([]:Str),(71:Int))else(wi (st++[(q,⟨0,0,o,0,d⟩)]) u jw,q,0))=(wi (st++[(q',⟨0,0,o,0,d⟩)]) u' jw,q',0)/\st.lookup u'=some n'/\n'.own=0/\¬ 9999999999<n'.ctr/\st.lookup q'=none/\qB q'=some u'/\d.length<=256/\0<=o/\o<=4611686018427387903:=fun q hq=>by
    by_cases h5:(st.lookup q).isSome=true
    .rw[if_pos h5];exact .inl ⟨71,by decide,rfl⟩
    .rw[if_neg h5]
     exact .inr ⟨q,u,n,rfl,hn,by simpa using h3,h4,(by
      cases e:st.lookup q with
      | none=>rfl
      | some y=>rw[e]at h5;exact absurd rfl h5),hq,by omega,by omega,by omega⟩
   by_cases hs:seq=true
   .rw[if_pos hs]
    cases hsf:yY p n.ctr with
    | none=>exact .inl ⟨20,by decide,rfl⟩
    | some q=>
     obtain⟨ps,_,hpq⟩:=acf hsf
     exact fin q (by rw[hpq,hp])
   .rw[if_neg hs]
    exact fin p hp
theorem abZ(st:St)(p:Str)(v:Int):(∃e,e≠0/\wL st p v=(st,e))\/
  ∃n u,wL st p v=(yn (wi st u yy) p,0)/\st.lookup p=some n/\p≠[47]/\qB p=some u/\¬ 0<n.kids:=by
 unfold wL
 by_cases h0:p=[47]\/parts p=none
 .rw[if_pos h0];exact .inl ⟨20,by decide,rfl⟩
 rw[if_neg h0]
 cases hn:st.lookup p with
 | none=>exact .inl ⟨70,by decide,rfl⟩
 | some n=>
  simp only
  by_cases h1:v≠ -1/\v≠n.ver
  .rw[if_pos h1];exact .inl ⟨72,by decide,rfl⟩
  rw[if_neg h1]
  by_cases h2:0<n.kids
  .rw[if_pos h2];exact .inl ⟨73,by decide,rfl⟩
  rw[if_neg h2]
  simp only[not_or]at h0
  obtain⟨ps,hps⟩:∃ ps,parts p=some ps:=by
   cases e:parts p with
   | none=>exact absurd e h0.2
   | some ps=>exact⟨ps,rfl⟩
  obtain⟨u,hu⟩:=ai2 hps h0.1
  rw[hu]
  exact .inr ⟨n,u,rfl,rfl,h0.1,rfl,h2⟩
theorem ah2(st:St)(p d:Str)(v:Int):(∃e,e≠0/\vW st p d v=(st,0,e))\/
  ∃n,vW st p d v=(wi st p (pt d),i64.wrap (n.ver+1),0)/\st.lookup p=some n/\p≠[47]/\d.length<=256:=by
 unfold vW
 by_cases h0:p=[47]\/parts p=none
 .rw[if_pos h0];exact .inl ⟨20,by decide,rfl⟩
 rw[if_neg h0]
 by_cases h1:256<d.length
 .rw[if_pos h1];exact .inl ⟨75,by decide,rfl⟩
 rw[if_neg h1]
 cases hn:st.lookup p with
 | none=>exact .inl ⟨70,by decide,rfl⟩
 | some n=>
  simp only
  by_cases h2:v≠ -1/\v≠n.ver
  .rw[if_pos h2];exact .inl ⟨72,by decide,rfl⟩
  rw[if_neg h2]
  simp only[not_or]at h0
  exact .inr ⟨n,rfl,rfl,h0.1,by omega⟩
structure ww(b:Nat)(st:St):Prop where
 inv:Inv st
 ver:∀ k n,st.lookup k=some n->0<=n.ver/\n.ver<=b
 own:∀ k n,st.lookup k=some n->0<=n.own/\n.own<=4611686018427387903/\(n.own≠0->n.ctr=0)
 rt:∀ n,st.lookup [47]=some n->n.data=[]/\n.ver=0/\n.own=0
 len:st.length<=b+1
theorem ww.mono{b c:Nat}{st:St}(h:ww b st)(hc:b<=c):ww c st:=
 ⟨h.inv,fun k n hk=>by have:=h.ver k n hk;omega,h.own,h.rt,by have:=h.len;omega⟩
theorem Inv.ctr0{st:St}(h:Inv st){k:Str}{n:Nd}(hk:st.lookup k=some n):0<=n.ctr:=by
 have h1:=h.kids k n hk
 have h2:=(h.ctr k n hk).1
 omega
theorem ww.inv3{b:Nat}{st:St}(h:ww b st)(hb:b<=4611686018427387903):ah1 st:=by
 refine⟨h.inv,fun k n hk=>⟨?_,(h.own k n hk).2.2⟩,h.rt⟩
 have h1:=h.ver k n hk
 have h2:=h.own k n hk
 have h3:=h.inv.ctr k n hk
 have h4:=h.inv.ctr0 hk
 unfold jO qQ
 simp only[Bool.and_eq_true,decide_eq_true_eq]
 omega
theorem aqG:ww 0 St.new:=by
 have hl:∀ k n,St.new.lookup k=some n->n=⟨0,0,0,0,[]⟩:=fun k n h=>by
  unfold St.new at h
  rw[List.lookup_cons]at h
  split at h
  .exact(Option.some.inj h).symm
  .cases h
 refine⟨ar6,fun k n h=>?_,fun k n h=>?_,fun n h=>?_,by decide⟩
 .rw[hl k n h];decide
 .rw[hl k n h];decide
 .rw[hl _ n h];exact⟨rfl,rfl,rfl⟩
theorem ai5{b:Nat}{st:St}{p d:Str}{o:Int}{seq:Bool}(h:ww b st)(hb:b<=4398046511103):ww (b+1) (wt st p d o seq).1:=by
 have hi:=aok (p:=p) (d:=d) (o:=o) (seq:=seq) h.inv (by have:=h.len;omega)
 have hlen:=aoj st p d o seq
 rcases ai4 st p d o seq with⟨e,_,he⟩ | ⟨q,u,n,he,hu,hown,hctr,hq,hpq,hd,ho1,ho2⟩
 .rw[he];exact h.mono (by omega)
 .rw[he]at hi hlen⊢
  simp only at hi hlen⊢
  have hl:∀ k m,(wi (st++[(q,⟨0,0,o,0,d⟩)]) u jw).lookup k=some m->(∃m',(st.lookup k=some m'\/(k=q/\m'=⟨0,0,o,0,d⟩))/\(m=m'\/(k=u/\m=jw m'))):=fun k m hk=>by
   rw[zd,uY]at hk
   have base:∀ x,(match st.lookup k with | some m=>some m | none=>if k=q then some (⟨0,0,o,0,d⟩:Nd)else none)=some x->st.lookup k=some x\/(k=q/\x=⟨0,0,o,0,d⟩):=fun x hx=>by
    cases e:st.lookup k with
    | some y=>rw[e]at hx;exact .inl hx
    | none=>
     rw[e]at hx
     simp only at hx
     split at hx
     .rename_i hkq;exact .inr ⟨hkq,(Option.some.inj hx).symm⟩
     .cases hx
   split at hk
   .rename_i hku
    obtain⟨m',h1,h2⟩:=Option.map_eq_some_iff.1 hk
    exact⟨m',base m' h1,.inr ⟨hku,h2.symm⟩⟩
   .exact⟨m,base m hk,.inl rfl⟩
  refine⟨hi,fun k m hk=>?_,fun k m hk=>?_,fun m hk=>?_,by have:=h.len;omega⟩
  .obtain⟨m',h1,h2⟩:=hl k m hk
   have h3:0<=m'.ver/\m'.ver<=(b+1:Nat):=by
    rcases h1 with h1 | ⟨_,rfl⟩
    .have:=h.ver k m' h1;omega
    .simp only;omega
   rcases h2 with rfl | ⟨_,rfl⟩
   .exact h3
   .exact h3
  .obtain⟨m',h1,h2⟩:=hl k m hk
   rcases h2 with rfl | ⟨hku,rfl⟩
   .rcases h1 with h1 | ⟨_,rfl⟩
    .exact h.own k m h1
    .exact⟨ho1,ho2,fun _=>rfl⟩
   .rcases h1 with h1 | ⟨hkq,_⟩
    .rw[hku,hu]at h1
     obtain rfl:=Option.some.inj h1
     exact⟨by show 0<=n.own;omega,by show n.own<=_;omega,fun hn=>absurd hown hn⟩
    .rw[hkq]at hku
     rw[hku]at hq
     rw[hq]at hu;cases hu
  .obtain⟨m',h1,h2⟩:=hl _ m hk
   have h3:m'.data=[]/\m'.ver=0/\m'.own=0:=by
    rcases h1 with h1 | ⟨hkq,_⟩
    .exact h.rt m' h1
    .rw[<-hkq,afS]at hpq;cases hpq
   rcases h2 with rfl | ⟨_,rfl⟩
   .exact h3
   .exact h3
theorem ai6{b:Nat}{st:St}{p:Str}{v:Int}(h:ww b st)(hb:b<=4398046511103):ww (b+1) (wL st p v).1:=by
 have hi:=aj1 (p:=p) (v:=v) h.inv (by have:=h.len;omega)
 have hlen:=aj0 st p v
 rcases abZ st p v with⟨e,_,he⟩ | ⟨n,u,he,hn,hne,hu,hk⟩
 .rw[he];exact h.mono (by omega)
 .rw[he]at hi hlen⊢
  simp only at hi hlen⊢
  have hnd:((wi st u yy).map (·.1)).Nodup:=by rw[ui];exact h.inv.keys
  have hl:∀ k m,(yn (wi st u yy) p).lookup k=some m->∃ m',st.lookup k=some m'/\(m=m'\/m=yy m'):=fun k m hk=>by
   rw[abt hnd]at hk
   split at hk
   .cases hk
   .rw[zd]at hk
    split at hk
    .obtain⟨m',h1,h2⟩:=Option.map_eq_some_iff.1 hk
     exact⟨m',h1,.inr h2.symm⟩
    .exact⟨m,hk,.inl rfl⟩
  refine⟨hi,fun k m hk=>?_,fun k m hk=>?_,fun m hk=>?_,by have:=h.len;omega⟩
  .obtain⟨m',h1,h2⟩:=hl k m hk
   have:=h.ver k m' h1
   rcases h2 with rfl | rfl
   .omega
   .show 0<=m'.ver/\m'.ver<=_;omega
  .obtain⟨m',h1,h2⟩:=hl k m hk
   have:=h.own k m' h1
   rcases h2 with rfl | rfl
   .exact this
   .exact this
  .obtain⟨m',h1,h2⟩:=hl _ m hk
   have:=h.rt m' h1
   rcases h2 with rfl | rfl
   .exact this
   .exact this
theorem amq{b:Nat}{st:St}{p d:Str}{v:Int}(h:ww b st)(hb:b<=4398046511103):ww (b+1) (vW st p d v).1:=by
 have hi:=ar9 (p:=p) (d:=d) (v:=v) h.inv
 have hlen:=aqz st p d v
 rcases ah2 st p d v with⟨e,_,he⟩ | ⟨n,he,hn,hne,hd⟩
 .rw[he];exact h.mono (by omega)
 .rw[he]at hi hlen⊢
  simp only at hi hlen⊢
  have hl:∀ k m,(wi st p (pt d)).lookup k=some m->∃ m',st.lookup k=some m'/\(m=m'\/(k=p/\m=pt d m')):=fun k m hk=>by
   rw[zd]at hk
   split at hk
   .rename_i hkp
    obtain⟨m',h1,h2⟩:=Option.map_eq_some_iff.1 hk
    exact⟨m',h1,.inr ⟨hkp,h2.symm⟩⟩
   .exact⟨m,hk,.inl rfl⟩
  refine⟨hi,fun k m hk=>?_,fun k m hk=>?_,fun m hk=>?_,by have:=h.len;omega⟩
  .obtain⟨m',h1,h2⟩:=hl k m hk
   have:=h.ver k m' h1
   rcases h2 with rfl | ⟨_,rfl⟩
   .omega
   .show 0<=i64.wrap (m'.ver+1)/\i64.wrap (m'.ver+1)<=_
    rw[wb (by omega) (by omega)];omega
  .obtain⟨m',h1,h2⟩:=hl k m hk
   have:=h.own k m' h1
   rcases h2 with rfl | ⟨_,rfl⟩
   .exact this
   .exact this
  .obtain⟨m',h1,h2⟩:=hl _ m hk
   rcases h2 with rfl | ⟨hkp,_⟩
   .exact h.rt m h1
   .exact absurd hkp.symm hne
theorem Inv.small{st:St}(h:Inv st):∀ p∈st,p.1.length<=128/\p.2.data.length<=256:=fun p hp=>by
 have hl:=(qW h.keys (k:=p.1) (n:=p.2)).2 hp
 obtain⟨ps,hps⟩:=h.path _ _ hl
 obtain⟨e,hg⟩:=wd.1 hps
 exact⟨by rw[e];exact hg.len,h.data _ _ hl⟩