import Derived.Test.YtomdigihapdhnaaGreatDoorXR
set_option linter.all false
set_option maxRecDepth 99999
set_option maxHeartbeats 0
open Go.IntKind(i64)
namespace Go.Proofs.YtomdigihapdhnaaGreatDoor
namespace Zt
open Go SL Pa
variable{owner qb qn v:Int}{o:MOp}{a st:St}{d h home p q u:Str}
def Loc(h:Str)(a b:St):Prop:= ∀k,qK k=some h->a.lookup k=b.lookup k
def Out(h:Str)(a a':St):Prop:= ∀k,qK k≠some h->a'.lookup k=a.lookup k
theorem ajz(h:qB q=some u):∃ qs,parts q=some qs/\qs≠[]/\parts u=some qs.dropLast:=by
 unfold qB at h
 cases hq:parts q with
 | none=>rw[hq]at h;cases h
 | some qs=>
  rw[hq]at h
  simp only at h
  split at h
  .cases h
  .rename_i hne
   cases h
   exact⟨qs,rfl,hne,wd.2 ⟨rfl,(wd.1 hq).2.up⟩⟩
theorem apR(hp:qB q=some u)(hu:qK u=some h):qK q=some h:=by
 obtain⟨qs,h1,h2,h3⟩:=ajz hp
 rw[pc h3]at hu
 rw[pc h1]
 match qs,h2 with
 | [x],_=>simp at hu
 | x::y::r,_=>simpa using hu
theorem asw{qs:List Str}(hq:parts q=some qs)(hh:qs.head?=some h)(hl:qs.length≠1)(hp:qB q=some u):qK u=some h:=by
 obtain⟨qs',h1,h2,h3⟩:=ajz hp
 rw[hq]at h1;cases h1
 rw[pc h3]
 match qs,h2 with
 | [x],_=>simp at hl
 | x::y::r,_=>simpa using hh
theorem agu{k:Str}(hk:qK k≠some h)(hp:qK p=some h):k≠p:=fun e=>hk (by rw[e];exact hp)
theorem aoF{o:Int}{seq:Bool}(hu:∀ u,qB p=some u->qK u=some h):Out h a (wt a p d o seq).1:=by
 have R:Out h a a:=fun _ _=>rfl
 unfold wt
 cases hp:qB p with
 | none=>exact R
 | some u=>
  have hhu:=hu u hp
  simp only
  split
  .exact R
  .split
   .exact R
   .cases hn:a.lookup u with
    | none=>exact R
    | some n=>
     simp only
     split
     .exact R
     .split
      .exact R
      .cases hq:(if seq then yY p n.ctr else some p)with
       | none=>exact R
       | some q=>
        simp only
        have hpq:qB q=some u:=by
         cases seq with
         | true=>simp at hq;obtain⟨_,_,e⟩:=acf hq;rw[e,hp]
         | false=>simp at hq;rw[<-hq,hp]
        have hhq:=apR hpq hhu
        split
        .exact R
        .intro k hk
         rw[zd,if_neg (agu hk hhu),uY]
         cases a.lookup k with
         | some m=>rfl
         | none=>simp only;rw[if_neg (agu hk hhq)]
theorem aoG(hka:(a.map (·.1)).Nodup)(hp:qK p=some h)(hu:∀ u,qB p=some u->qK u=some h):Out h a (wL a p v).1:=by
 have R:Out h a a:=fun _ _=>rfl
 unfold wL
 split
 .exact R
 .cases hn:a.lookup p with
  | none=>exact R
  | some n=>
   simp only
   split
   .exact R
   .split
    .exact R
    .cases hpp:qB p with
     | none=>exact R
     | some u=>
      simp only
      intro k hk
      rw[abt (by rw[ui];exact hka),if_neg (agu hk hp),zd,if_neg (agu hk (hu u hpp))]
theorem ard(hp:qK p=some h):Out h a (vW a p d v).1:=by
 have R:Out h a a:=fun _ _=>rfl
 unfold vW
 split
 .exact R
 .split
  .exact R
  .cases hn:a.lookup p with
   | none=>exact R
   | some n=>
    simp only
    split
    .exact R
    .intro k hk
     rw[zd,if_neg (agu hk hp)]
theorem aja(h:zC home o=0):qK o.path=some home/\(o.kind<=2->∀ u,qB o.path=some u->qK u=some home):=by
 unfold zC at h
 split at h
 .cases h
 .cases hp:parts o.path with
  | none=>rw[hp]at h;cases h
  | some ps=>
   rw[hp]at h
   simp only at h
   split at h
   .cases h
   .rename_i hc
    simp only[not_or,Classical.not_not,not_and]at hc
    refine⟨by rw[pc hp];exact hc.1,fun hk u hu=>asw hp hc.1 (fun e=>?_) hu⟩
    exact absurd hk (by have:=hc.2 e;omega)
theorem arf(hw:zC home o=0)(hka:(a.map (·.1)).Nodup):Out home a (xf owner a o).1:=by
 obtain⟨h1,h2⟩:=aja hw
 unfold xf
 split
 .exact aoF (h2 (by omega))
 .split
  .exact aoG hka h1 (h2 (by omega))
  .split
   .exact ard h1
   .exact fun _ _=>rfl
theorem amR(h:(a.map (·.1)).Nodup):a.Nodup:=List.Pairwise.of_map (·.1) (fun a b h e=>h (by rw[e])) h
theorem ahn(h:Str):∀ a:St,(a.map (uw h)).sum=((a.filter fun p=>decide (qK p.1=some h)).map (uw h)).sum
 | []=>rfl
 | p::r=>by
  have ih:=ahn h r
  by_cases c:qK p.1=some h
  .rw[List.filter_cons_of_pos (by simpa using c)];simp[ih]
  .rw[List.filter_cons_of_neg (by simpa using c)]
   rw[List.map_cons,List.sum_cons,ih]
   unfold uw;rw[if_neg c];simp
theorem alx{b:St}(hka:(a.map (·.1)).Nodup)(hkb:(b.map (·.1)).Nodup)(L:Loc h a b):ze a h=ze b h:=by
 have hp:(a.filter fun p=>decide (qK p.1=some h)).Perm (b.filter fun p=>decide (qK p.1=some h)):=by
  refine(List.perm_ext_iff_of_nodup ((amR hka).filter _) ((amR hkb).filter _)).2 fun p=>?_
  obtain⟨k,n⟩:=p
  simp only[List.mem_filter,decide_eq_true_eq]
  constructor
  .rintro⟨h1,h2⟩
   exact⟨(qW hkb).1 (by rw[<-L k h2];exact(qW hka).2 h1),h2⟩
  .rintro⟨h1,h2⟩
   exact⟨(qW hka).1 (by rw[L k h2];exact(qW hkb).2 h1),h2⟩
 unfold ze
 rw[ahn h a,ahn h b,amv (hp.map (uw h)),List.countP_eq_length_filter,List.countP_eq_length_filter,hp.length_eq]
theorem asx{w:uG}(hk:(w.st.map (·.1)).Nodup):Out home w.st (doE home owner qn qb w o).2.st:=by
 by_cases hc:zC home o=0
 .have:=arf (owner:=owner) hc hk
  unfold doE
  rw[if_neg (by simpa using hc)]
  split
  .exact this
  .split
   .exact this
   .exact this
 .unfold doE
  rw[if_pos hc]
  exact fun _ _=>rfl
theorem aoH:∀ {os:List MOp} {i b:Nat} {w v:uG},ww b w.st->b+os.length<=4398046511103->vg home owner qn qb os i w= .inr v->Out home w.st v.st:=by
 intro os
 induction os with
 | nil=>intro i b w v _ _ h;cases h;exact fun _ _=>rfl
 | cons o os ih=>
  intro i b w v h1 hb h
  simp only[List.length_cons]at hb
  unfold vg at h
  split at h
  .cases h
  .have e1:=ih (agf h1 (by omega)) (by omega) h
   have e2:=asx (home:=home) (owner:=owner) (qn:=qn) (qb:=qb) (o:=o) h1.inv.keys
   exact fun k hk=>(e1 k hk).trans (e2 k hk)
theorem aeN(hk:(a.map (·.1)).Nodup)(k:Str):(srt a).lookup k=a.lookup k:=(adO (vr a).symm hk k).symm
theorem akh{ops:List MOp}{b:Nat}(ha:ww b a)(hb:b<=4398046511000):Out home a (qS a home owner qn qb ops).st:=by
 unfold qS
 split
 .exact fun _ _=>rfl
 .split
  .exact fun _ _=>rfl
  .cases e:vg home owner qn qb ops 0 ⟨srt a,[],[]⟩with
   | inl x=>exact fun _ _=>rfl
   | inr w=>
    have:=aoH (acC ha) (by omega) e
    exact fun k hk=>(this k hk).trans (aeN ha.inv.keys k)
theorem aki{ws:List Int}:(adi st ws).length<=st.length:=by
 unfold adi
 rw[List.length_reverse]
 refine Nat.le_trans (List.length_filter_le _ _) ?_
 rw[List.length_map,(vr st).length_eq]
 exact Nat.le_refl _
end Zt
namespace SL
open Go
variable{P:Program}{B:World}{ro I I':AH}{tag tag':Nat->Nat}{L:List Nat}
variable{τ:AH}{l:List (List Value)}{r w:Nat}{tag1:Nat->Nat}{s:Sl}{e:TypeId}
theorem qq.outR(h:qq tag I r e w s l)(hr:r∉L):qq tag (SL.zJ tag L I) r e w s l:=by
 rcases h with h | ⟨c,cs,ha,ht,hs,hx⟩
 .exact .inl h
 .refine .inr ⟨c,cs,ha,ht,?_,hx⟩
  unfold SL.zJ;rw[if_neg (by rw[ht];exact hr)];exact hs
theorem qq.backR(h:qq tag1 τ r e w s l)(hd:qP (inR tag L I) τ):qq (tagB tag tag1 L I) (join (inR tag L I) τ) r e w s l:=by
 rcases h with h | ⟨c,cs,ha,ht,hs,hx⟩
 .exact .inl h
 .have hn:inR tag L I c=none:=by
   cases e:inR tag L I c with
   | none=>rfl
   | some o=>have:=hd c o e;rw[hs]at this;cases this
  exact .inr ⟨c,cs,ha,by rw[adw hn];exact ht,by unfold join;rw[hn];exact hs,hx⟩
theorem Row.againR{l:List Value}(h:Row tag I r e s l)(hr:r∈L):Row (tagB tag tag1 L I) (join (inR tag L I) τ) r e s l:=by
 rcases h with h | ⟨c,cs,ha,ht,hs,hx⟩
 .exact .inl h
 .have hn:inR tag L I c=some (.cells cs e):=by unfold inR;rw[if_pos (by rw[ht];exact hr)];exact hs
  exact .inr ⟨c,cs,ha,by rw[aky hn];exact ht,by unfold join;rw[hn],hx⟩
end SL
namespace Zt
open Go SL G Pa Wi
variable{B:World}{ro I I':AH}{tag tag':Nat->Nat}{L:List Nat}
variable{τ:AH}{h hb:Hub}{C bs:List Nat}{l:List Value}{M T Th Tt W b r:Nat}{tag1:Nat->Nat}{a2 ms ms0 os:Sl}{st:St}{s:Sto}{k:Str×Int}{c:vY}
theorem wa.outR(h:wa tag I r T st)(hL:∀ x∈L,x%64≠r%64/\x%64≠6):wa tag (SL.zJ tag L I) r T st:=by
 obtain⟨M,bs,h⟩:=h
 have no:∀ x,x%64=r%64->x∉L:=fun x hx hm=>(hL x hm).1 hx
 refine⟨M,bs,h.keys,h.len,h.nd,h.cell.outR (no _ rfl),h.map.outR (no _ (by omega)),fun i b p hb hp=>?_⟩
 obtain⟨s,a,e⟩:=h.nodes i b p hb hp
 exact⟨s,a.outR (no _ (by omega)),e.outR fun hm=>(hL 6 hm).2 rfl⟩
theorem wa.backR(h:wa tag1 τ r T st)(hd:qP (inR tag L I) τ):wa (tagB tag tag1 L I) (join (inR tag L I) τ) r T st:=by
 obtain⟨M,bs,h⟩:=h
 refine⟨M,bs,h.keys,h.len,h.nd,h.cell.backR hd,h.map.backR hd,fun i b p hb hp=>?_⟩
 obtain⟨s,a,e⟩:=h.nodes i b p hb hp
 exact⟨s,a.backR hd,e.backR hd⟩
theorem za.outR(hi:za tag I T M bs h)(hL:∀ x∈L,x%64∉[59,60,61,62]):za tag (SL.zJ tag L I) T M bs h:=by
 have no:∀ x,x%64∈[59,60,61,62]->x∉L:=fun x hx hm=>hL x hm hx
 refine⟨hi.cell.outR (no 62 (by decide)),hi.map.mono (hi.map.map.outR (no 126 (by decide))) fun _ b k d _ _ hx=>?_⟩
 obtain⟨m,s,row,ev,mk⟩:=hx
 exact⟨m,s,row.outR (no _ (by rw[show(59+64*(b+2))%64=59 by omega];decide)),ev.outR (no _ (by rw[show(61+64*(b+2))%64=61 by omega];decide)),mk.outR (no _ (by rw[show(60+64*(b+2))%64=60 by omega];decide))⟩
theorem za.backR(hi:za tag1 τ T M bs h)(hd:qP (inR tag L I) τ):za (tagB tag tag1 L I) (join (inR tag L I) τ) T M bs h:=by
 refine⟨hi.cell.backR hd,hi.map.mono (hi.map.map.backR hd) fun _ b k d _ _ hx=>?_⟩
 obtain⟨m,s,row,ev,mk⟩:=hx
 exact⟨m,s,row.backR hd,ev.backR hd,mk.backR hd⟩
abbrev RQ:=Int->Int->Sl->Int->Sl->Int->Int->Int->Int->Sl->Sl->Int->AH->Prop
abbrev acL(x:Rep)(rs ds ns es:Sl):List Value:=[.int .i64 x.code,.int .i64 x.session,Sl.v rs,.int .i64 x.bad,Sl.v ds,.int .i64 x.ver,.int .i64 x.ctr,.int .i64 x.own,.int .i64 x.kids,Sl.v ns,Sl.v es,.int .i64 x.epoch]
abbrev adr(Q:RQ)(x:Rep)(rs ds ns es:Sl)(I:AH):Prop:=Q x.code x.session rs x.bad ds x.ver x.ctr x.own x.kids ns es x.epoch I
abbrev arh(c:vY)(os ms:Sl):List Value:=[.int .i64 c.kind,.string (S c.home),.int .i64 c.session,.int .i64 c.req,.int .i64 c.nonce,.int .i64 c.lease,.int .i64 c.beats,.int .i64 c.ack,Sl.v os,.string (S c.path),.bool c.watch,.int .i64 c.epoch,Sl.v ms]
theorem aeR(x:Rep)(rs ds ns es:Sl):∀ v∈acL x rs ds ns es,qh v=true:=by simp[qh,Sl.v]
abbrev akZ(ro:AH)(R:Nat)(Q:RQ):AH->Prop:=fun I=> ∃(a b:Int) (c:Sl) (d:Int) (e:Sl) (f g h i:Int) (j k:Sl) (m:Int),SL.qg ro I ⟨R,0,none⟩ 0 [.int .i64 a,.int .i64 b,Sl.v c,.int .i64 d,Sl.v e,.int .i64 f,.int .i64 g,.int .i64 h,.int .i64 i,Sl.v j,Sl.v k,.int .i64 m]/\Q a b c d e f g h i j k m I
abbrev ajA(ro:AH)(R:Nat)(Q:RQ):RQ:=fun a b c d e f g h i j k m I=>stN ⟨R,0,none⟩ (akZ ro R Q) [.int .i64 a,.int .i64 b,Sl.v c,.int .i64 d,Sl.v e,.int .i64 f,.int .i64 g,.int .i64 h,.int .i64 i,Sl.v j,Sl.v k,.int .i64 m] 0 I
theorem pg{R:Nat}{Q:RQ}(x:Rep)(rs ds ns es:Sl)(hr:Row tag I r 30 ⟨some ⟨R,0,none⟩,12,12⟩ l)(hl:l.length=12)(hs:SL.Sep ro I)(hQ:∀ I',qe [r] ro tag I tag I'->adr Q x rs ds ns es I'):
  stN ⟨R,0,none⟩ (akZ ro R Q) (acL x rs ds ns es) 0 I:=by
 refine hr.stPre (acL x rs ds ns es) 0 _ I hs (by simp[hl]) (aeR _ _ _ _ _) fun I1 st1 r1=>?_
 have e:l.take 0++acL x rs ds ns es++l.drop (0+(acL x rs ds ns es).length)=acL x rs ds ns es:=by
  rw[List.take_zero,List.nil_append,List.drop_of_length_le (by simp[hl]),List.append_nil]
 rw[e]at r1
 exact⟨_,_,_,_,_,_,_,_,_,_,_,_,qz (r1.read st1.sep) rfl,hQ I1 st1⟩
theorem agv{Q:ByteArray->Int->AH->Prop}(hQ:∀ tag' I',(∀R,qe R ro tag I tag' I')->Q (S c.home) c.session I'):vB B ro c.kind (S c.home) c.session c.req c.nonce c.lease c.beats c.ack os (S c.path) c.watch c.epoch ms I Q:=by
 refine aiR fun hs=>?_
 unfold acG
 refine qj (tag:=tag) 0 hs fun X tag1 I1 st1 r1=>?_
 have g0:=fun τ t (st:∀ R,qe R ro tag1 I1 t τ)=>((r1.keep (st [])).read (st []).sep).2.2 _ rfl
 intro Y hroY hY
 have st2:∀ R,qe R ro tag1 I1 (setTag tag1 Y 0) (upd I1 Y (.cells #[.string ByteArray.empty,.int .i64 0] 81)):=fun R=>qe.fresh (st1 []).sep hroY hY
 refine⟨S c.home,g0 _ _ st2 1 _ rfl,c.session,g0 _ _ st2 2 _ rfl,?_⟩
 have:=xh (ro:=ro) (tag:=tag1) (I:=I1) (e:=81) (cs:= #[.string ByteArray.empty,.int .i64 0]) (vs:=[.string (S c.home),.int .i64 c.session]) (K:=fun y I=> ∃(a:ByteArray) (b:Int),SL.qg ro I ⟨y,0,none⟩ 0 [.string a,.int .i64 b]/\Q a b I) 0 (st1 []).sep rfl (by simp[qh]) fun y tag3 I3 st3 r3=>⟨S c.home,c.session,qz (r3.read (st3 []).sep) rfl,hQ tag3 I3 fun R=>(st1 R).trans (st3 R)⟩
 exact this Y hroY hY
theorem abm{e:Int}{Q:RQ}(hQ:∀ tag' I',(∀R,qe R ro tag I tag' I')->adr Q (zh e) nS nS nS nS I'):wK B ro e I Q:=by
 refine akW fun hs=>?_
 unfold aev
 refine xh (tag:=tag) 0 hs rfl (aeR (zh e) nS nS nS nS) fun X tag1 I1 st1 r1=>?_
 exact⟨_,_,_,_,_,_,_,_,_,_,_,_,qz (r1.read (st1 []).sep) rfl,hQ tag1 I1 st1⟩
theorem ari{Q:Int->Int->AH->Prop}(hQ:∀ tag' I',(∀R,qe R ro tag I tag' I')->Q 64 8192 I'):aei B ro I Q:=by
 refine akX fun hs=>?_
 unfold aew
 refine xh (tag:=tag) 0 hs rfl (by simp[qh]) fun X tag1 I1 st1 r1=>?_
 exact⟨_,_,qz (r1.read (st1 []).sep) rfl,hQ tag1 I1 st1⟩
theorem arS{Q:Int->AH->Prop}(g:wV ro)(hQ:∀ tag' I',(∀R,qe R ro tag I tag' I')->Q (atE c) I'):aeF B ro c.kind (S c.home) c.session c.req c.nonce c.lease c.beats c.ack os (S c.path) c.watch c.epoch ms I Q:=by
 refine ang fun hs=>?_
 unfold ahk
 refine qj (tag:=tag) 0 hs fun X tag1 I1 st1 r1=>?_
 have hs1:=(st1 []).sep
 refine⟨S c.path,(r1.read hs1).2.2 _ rfl 9 _ rfl,?_⟩
 refine amQ (tag:=tag1) g (fun tag2 I2 st2=>?_) hs1
 rw[L_S]
 have hq:=hQ tag2 I2 fun R=>(st1 R).trans (st2 R)
 unfold atE at hq
 by_cases h1:parts c.path=none
 .rw[if_pos h1]at hq⊢
  rw[if_neg (by decide)]
  unfold aax
  rw[if_neg (by simp)]
  exact hq
 .rw[if_neg h1]at hq⊢
  rw[if_pos rfl]
  refine⟨S c.home,((r1.keep (st2 [])).read (st2 []).sep).2.2 _ rfl 1 _ rfl,?_⟩
  unfold aax
  by_cases h2:(qK c.path).getD []=c.home
  .rw[if_neg (by simp[h2])]at hq
   rw[if_neg (by simp[h2])]
   exact hq
  .rw[if_pos h2]at hq
   rw[if_pos (by simpa using fun e=>h2 (ab9.1 e))]
   exact hq
structure wJ(tag:Nat->Nat)(I:AH)(W T Tt Th:Nat)(ms:Sl)(s:Sto):Prop where
 own:Row tag I 54 153 ⟨some ⟨W,0,none⟩,5,5⟩ [vI s.epoch,Sl.v ms,ptr T,ptr Tt,ptr Th]
 mem:Row tag I 118 3 ms (s.members.map vI)
 tree:wa tag I 10 T s.tree
 tbl:ahd tag I Tt s.tbl
 hub:aiD tag I Th s.hub
theorem wJ.at(h:wJ tag I W T Tt Th ms s):yz tag I W s:=⟨T,Tt,Th,ms,h.own,h.mem,h.tree,h.tbl,h.hub⟩
theorem yz.in(h:yz tag I W s):∃ T Tt Th ms,wJ tag I W T Tt Th ms s:=by
 obtain⟨T,Tt,Th,ms,a,b,c,d,e⟩:=h
 exact⟨T,Tt,Th,ms,a,b,c,d,e⟩
abbrev DSt:List Nat:=[6,10,54,55,56,57,58,59,60,61,62]
theorem wJ.keepS(h:wJ tag I W T Tt Th ms s)(k:StepS C ro tag I tag' I')(hC:∀ x∈DSt,x∉C:=by decide):wJ tag' I' W T Tt Th ms s:=
 ⟨h.own.keepS k (hC 54 (by decide)),h.mem.keepS k (hC 54 (by decide)),h.tree.keepS k (hC 10 (by decide)) (hC 6 (by decide)),h.tbl.keepS k ⟨hC 55 (by decide),hC 56 (by decide),hC 57 (by decide),hC 58 (by decide),hC 6 (by decide)⟩,h.hub.keepS k ⟨hC 62 (by decide),hC 59 (by decide),hC 60 (by decide),hC 61 (by decide)⟩⟩
theorem wJ.fresh(h:wJ tag I W T Tt Th ms s)(k:∀ R,qe R ro tag I tag' I'):wJ tag' I' W T Tt Th ms s:=h.keepS (qv (C:=[]) k) (by simp)
theorem apS{q q2 rw:Nat}{home:Str}{ws:List Int}{Q:Sl->AH->Prop}(g:wV ro)(hr:r<64)(hr0:r≠0)(hr6:r≠6)(hq:q<64)(hq2:q2<64)(hqs:q∉[0,6,r])(hq2s:q2∉[0,6,r,q])
  (h:wa tag I r T st) (hi:ww b st) (hb:b<=1073741824) (hw:Row tag I rw 3 a2 (ws.map vI)) (hrw:rw%64≠r/\rw%64≠6) (hwl:ws.length<=4611686018427387903) (hs:SL.Sep ro I)
  (hQ:∀ es tag' I',StepS [0,r,q,q2] ro tag I tag' I'->wa tag' I' r T (pd st home ws).1->qq tag' I' (q2+256) 336 2 es ((pd st home ws).2.map ajq)->Q es I'):
  aan B ro (some ⟨T,0,none⟩) (S home) a2 I Q:=by
 have hL:∀ x∈[rw],x%64≠r%64/\x%64≠6:=fun x hx=>by rw[List.mem_singleton.1 hx,Nat.mod_eq_of_lt hr];exact hrw
 have base:aan B (join ro (SL.inR tag [rw] I)) (some ⟨T,0,none⟩) (S home) a2 (SL.zJ tag [rw] I) fun es τ=>qP (SL.inR tag [rw] I) τ->Q es (join (SL.inR tag [rw] I) τ):=by
  refine aqP (tag:=tag) (b:=b) (q:=q) (q2:=q2) (acR g) hr hr0 hr6 hq hq2 hqs hq2s (h.outR hL) hi hb ?_ hwl fun es tag1 τ st1 h1 h2 hd=>?_
  .refine⟨(hw.read hs).1,(hw.read hs).2.1,fun p hp i v hv=>hw.lendR hs (by simp) hp hv⟩
  .exact hQ es _ _ (st1.backR hs hd) (h1.backR hd) (h2.backR hd)
 have hd:qP (SL.inR tag [rw] I) (SL.zJ tag [rw] I):=fun c o hc=>by
  obtain⟨h1,_⟩:=amh hc
  unfold SL.zJ;rw[if_pos h1]
 have:=qc.lend base hd
 rw[aiG]at this
 exact qc.mono this fun v I' ⟨τ,ht,hdj,r0,hv,q'⟩=>by subst ht;exact⟨r0,hv,q' hdj⟩
abbrev CC:List Nat:=[0,10,20,21,52,53,59,60,61,62]
theorem asy(l:List Str):(l.map ajq)=(l.map fun p=>((2:Int),p)).map aes:=by rw[List.map_map];try rfl
theorem amS{Q:AH->Prop}(g:wV ro)(h:wJ tag I W T Tt Th ms s)(i:vE b s)(hb:b<=33554433)
  (hQ:∀ tag' I',StepS CC ro tag I tag' I'->wJ tag' I' W T Tt Th ms (agh s k)->Q I'):ph B ro (some ⟨W,0,none⟩) (S k.1) k.2 I Q:=by
 refine ahj fun hs=>?_
 unfold aaI
 refine qj (tag:=tag) 52 hs fun X tag1 I1 st1 r1=>?_
 have hs1:=(st1 []).sep
 have h1:=h.fresh st1
 refine⟨_,rfl,some ⟨Th,0,none⟩,(h1.own.read hs1).2.2 _ rfl 4 _ rfl,S k.1,k.2,qz (r1.read hs1) rfl,?_⟩
 refine qj (tag:=tag1) 53 hs1 fun Y tag2 I2 st2 r2=>?_
 have h2:=h1.fresh st2
 obtain⟨M,bs,hub⟩:=h2.hub
 refine arc hub r2 fun bs' tag3 I3 st3 hub3=>?_
 have hs3:=st3.sep
 have r3:=(r1.keep (st2 [])).keepS st3
 have o3:=h2.own.keepS st3
 have t3:=h2.tree.keepS st3
 have L2:∀ x∈[54,52],x%64≠10%64/\x%64≠6:=by decide
 refine jF tag3 [54,52] ?_
 have hsA:SL.Sep (join ro (SL.inR tag3 [54,52] I3)) (SL.zJ tag3 [54,52] I3):=hs3.lentR
 have tA:=t3.outR L2
 have hubA:=hub3.outR (L:=[54,52]) (by decide)
 refine⟨_,rfl,some ⟨Th,0,none⟩,o3.lendR hs3 (by simp) rfl (i:=4) rfl,_,rfl,some ⟨T,0,none⟩,o3.lendR hs3 (by simp) rfl (i:=2) rfl,S k.1,r3.lendR hs3 (by simp) rfl (i:=0) rfl,k.2,r3.lendR hs3 (by simp) rfl (i:=1) rfl,?_⟩
 refine qj (tag:=tag3) 53 hsA fun Z tag4 I4 st4 r4=>?_
 have t4:=tA.keep (st4 [])
 have hub4:=hub3.outR (L:=[54,52]) (by decide) |>.fresh st4
 refine apS (b:=20*b) (q:=20) (q2:=21) (ws:=[k.2]) (rw:=53) (acR g) (by decide) (by decide) (by decide) (by decide) (by decide) (by decide) (by decide) t4 i.tree (by omega) r4 (by decide) (by simp) (st4 []).sep fun es tag5 I5 st5 t5 e5=>?_
 have hub5:=hub4.keepS st5
 rw[asy]at e5
 have hln:(pd s.tree k.1 [k.2]).2.length<=1099511627776:=by
  have:=(aj6 (home:=k.1) (adi s.tree [k.2]) (a:=(s.tree,[])) i.tree (by
   have:=aki (st:=s.tree) (ws:=[k.2]);have:=i.tree.len;omega)).2
  have h2:=aki (st:=s.tree) (ws:=[k.2])
  have h3:=i.tree.len
  unfold pd
  simp only[List.length_nil,Nat.zero_add]at this
  omega
 refine amP (b0:=b) (acR g) hub5 (amC i.hub) hb e5 (by decide) (by simpa using hln) fun n tag6 I6 st6 hub6=>?_
 intro hd
 have k46:StepS CC (join ro (SL.inR tag3 [54,52] I3)) tag3 (SL.zJ tag3 [54,52] I3) tag6 I6:=(qv st4).trans ((st5.mono (by decide)).trans (st6.mono (by decide)))
 have kA:=k46.backR hs3 hd
 have k2:StepS CC ro tag I tag3 I3:=(qv fun R=>(st1 R).trans (st2 R)).trans (st3.mono (by decide))
 have kB:=k2.trans kA
 refine hQ _ _ kB ⟨o3.againR (by simp),?_,?_,?_,M,bs',hub6.backR hd⟩
 .exact(h2.mem.keepS st3).keepS kA
 .exact(t5.keepS st6).backR hd
 .exact(h2.tbl.keepS st3).keepS kA
theorem Row.lendAll{e:TypeId}{n c:Nat}(h:Row tag I r e ⟨some ⟨b,0,none⟩,n,c⟩ l)(hs:SL.Sep ro I)(hr:r∈L):SL.qg (join ro (SL.inR tag L I)) τ ⟨b,0,none⟩ 0 l:=
 zu 0 fun i v hv=>by rw[Nat.zero_add];exact h.lendR hs hr rfl hv
theorem wJ.hubSet(h:wJ tag I W T Tt Th ms s)(k:StepS C ro tag I tag' I')(hC:∀ x∈[6,10,54,55,56,57,58],x∉C)(hh:aiD tag' I' Th hb):wJ tag' I' W T Tt Th ms {s with hub:=hb}:=
 ⟨h.own.keepS k (hC 54 (by decide)),h.mem.keepS k (hC 54 (by decide)),h.tree.keepS k (hC 10 (by decide)) (hC 6 (by decide)),h.tbl.keepS k ⟨hC 55 (by decide),hC 56 (by decide),hC 57 (by decide),hC 58 (by decide),hC 6 (by decide)⟩,hh⟩
theorem amT{m:xP}(e:¬ (pE h k m).2=0):pE h k m=(h,(pE h k m).2):=by
 unfold pE at e⊢
 split
 .rfl
 .rename_i c
  rw[if_neg c]at e
  split
  .rfl
  .rename_i d;rw[if_neg d]at e;exact absurd rfl e
abbrev CGe:List Nat:=[0,47,59,60,61,62]
theorem amU{X:Nat}{kind:Int}{K:Int->AH->Prop}(g:wV ro)(hs:SL.Sep ro I)(h:wJ tag I W T Tt Th ms0 s)(i:vE b s)(x:Row tag I 46 57 ⟨some ⟨X,0,none⟩,13,13⟩ (arh c os ms))
  (hK:∀ tag' I',StepS CD ro tag I tag' I'->wJ tag' I' W T Tt Th ms0 {s with hub:=(pE s.hub c.key (c.path,kind)).1}->Row tag' I' 46 57 ⟨some ⟨X,0,none⟩,13,13⟩ (arh c os ms)->K (pE s.hub c.key (c.path,kind)).2 I'):
  yP I fun ψ I=>
   ∃p19_18:Addr,(some ⟨W,0,none⟩:Option Addr)=some p19_18/\
   ∃(x21_19:Option Addr),qa (join ro ψ) (fun _=>none) (p19_18.add 4)=some (.pointer x21_19)/\
   ∃(x25_20:ByteArray),qa (join ro ψ) (fun _=>none) ((⟨X,0,none⟩:Addr).add 9)=some (.string x25_20)/\
   ∃(a:Int) (b:ByteArray) (c d e f g h:Int) (i:Sl) (j:ByteArray) (k:Bool) (l:Int) (m:Sl),SL.qg (join ro ψ) I ⟨X,0,none⟩ 0 [.int .i64 a,.string b,.int .i64 c,.int .i64 d,.int .i64 e,.int .i64 f,.int .i64 g,.int .i64 h,Sl.v i,.string j,.bool k,.int .i64 l,Sl.v m]/\
   vB B (join ro ψ) a b c d e f g h i j k l m I fun x23_22a x23_22b I=>
   pP B (join ro ψ) x21_19 x23_22a x23_22b kind x25_20 I fun x26_23 I=>
   (qP ψ I->(fun I=>K x26_23 I) (join ψ I)):=by
 refine jF tag [54,46] ?_
 have hsA:SL.Sep (join ro (SL.inR tag [54,46] I)) (SL.zJ tag [54,46] I):=hs.lentR
 obtain⟨M,bs,hub⟩:=h.hub
 have hubA:=hub.outR (L:=[54,46]) (by decide)
 refine⟨_,rfl,some ⟨Th,0,none⟩,h.own.lendR hs (by simp) rfl (i:=4) rfl,S c.path,x.lendR hs (by simp) rfl (i:=9) rfl,_,_,_,_,_,_,_,_,_,_,_,_,_,Row.lendAll x hs (by simp),?_⟩
 refine agv (tag:=tag) fun tag1 I1 st1=>?_
 refine asv (k:=c.key) (m:=(c.path,kind)) (acR g) (hubA.fresh st1) i.hub fun bs' tag2 I2 st2 hub2=>?_
 intro hd
 have kA:StepS CD ro tag I _ _:=((qv st1).trans st2).backR hs hd
 refine hK _ _ kA ?_ (x.againR (by simp))
 have:=h.hubSet kA (by decide) ⟨M,bs',hub2.backR hd⟩
 exact⟨h.own.againR (by simp),this.mem,this.tree,this.tbl,this.hub⟩
theorem asz{Q:RQ}(g:wV ro)(h:wJ tag I W T Tt Th ms0 s)(i:vE b s)
  (hQ:∀ ds tag' I',StepS CGe ro tag I tag' I'->wJ tag' I' W T Tt Th ms0 (adl s c).1->Row tag' I' 6 5 ds ((adl s c).2.data.map vU)->adr Q (adl s c).2 nS ds nS nS I'):
  abA B ro (some ⟨W,0,none⟩) c.kind (S c.home) c.session c.req c.nonce c.lease c.beats c.ack os (S c.path) c.watch c.epoch ms I Q:=by
 refine aik fun hs=>?_
 unfold abJ
 refine qj (tag:=tag) 46 hs fun X tag1 I1 st1 r1=>?_
 refine qj (tag:=tag1) 47 (st1 []).sep fun R tag2 I2 st2 r2=>?_
 have x2:=r1.keep (st2 [])
 refine⟨_,_,_,_,_,_,_,_,_,_,_,_,_,qz (x2.read (st2 []).sep) rfl,?_⟩
 refine arS (tag:=tag2) g fun tag3 I3 st3=>?_
 have hs3:=(st3 []).sep
 have k3:∀ R,qe R ro tag I tag3 I3:=fun R=>(st1 R).trans ((st2 R).trans (st3 R))
 have h3:=h.fresh k3
 have x3:=x2.keep (st3 [])
 have y3:=r2.keep (st3 [])
 unfold adl at hQ
 by_cases h0:atE c=0
 .rw[if_neg (by simpa using h0)]
  rw[if_neg (by simpa using h0)]at hQ
  have tail:∀ (hb:Hub) tag4 I4,StepS CD ro tag3 I3 tag4 I4->wJ tag4 I4 W T Tt Th ms0 {s with hub:=hb}->Row tag4 I4 46 57 ⟨some ⟨X,0,none⟩,13,13⟩ (arh c os ms)->
    (∀ds tag' I',StepS CGe ro tag I tag' I'->wJ tag' I' W T Tt Th ms0 {s with hub:=hb}->Row tag' I' 6 5 ds ((match s.tree.lookup c.path with | none=>zh 70 | some n=>{Rep.zero with data:=n.data,ver:=n.ver,ctr:=n.ctr,own:=n.own,kids:=n.kids}).data.map vU)->adr Q (match s.tree.lookup c.path with | none=>zh 70 | some n=>{Rep.zero with data:=n.data,ver:=n.ver,ctr:=n.ctr,own:=n.own,kids:=n.kids}) nS ds nS nS I')->
    kl B ro (some ⟨W,0,none⟩) X R Q I4:=fun hb tag4 I4 st4 h4 x4 q4=>by
   have hs4:=st4.sep
   have y4:=y3.keepS st4
   have k4:StepS CGe ro tag I tag4 I4:=(qv k3).trans (st4.mono (by decide))
   unfold kl
   refine⟨_,rfl,some ⟨T,0,none⟩,(h4.own.read hs4).2.2 _ rfl 2 _ rfl,S c.path,(x4.read hs4).2.2 _ rfl 9 _ rfl,?_⟩
   obtain⟨MT,bsT,hT⟩:=h4.tree
   have fin:∀ (x:Rep) ds tag5 I5,zF 0 ro tag4 I4 tag5 I5->Row tag5 I5 6 5 ds (x.data.map vU)->x=(match s.tree.lookup c.path with | none=>zh 70 | some n=>{Rep.zero with data:=n.data,ver:=n.ver,ctr:=n.ctr,own:=n.own,kids:=n.kids})->x.session=0->x.bad=0->x.epoch=0->
     nw ro I5 (.cells #[.int .i64 0,.int .i64 0,.int .i64 0,.int .i64 0] 26) fun x8_14 I=>
     stN ⟨x8_14,0,none⟩ (fun I=>
      ∃(x44_15a:Int) (x44_15b:Int) (x44_15c:Int) (x44_15d:Int),SL.qg ro I ⟨x8_14,0,none⟩ 0 [.int .i64 x44_15a,.int .i64 x44_15b,.int .i64 x44_15c,.int .i64 x44_15d]/\
      stN ⟨R,0,none⟩ (akZ ro R Q) [.int .i64 x.code,.int .i64 0,Sl.v (⟨none,0,0⟩:Sl),.int .i64 0,Sl.v ds,.int .i64 x44_15a,.int .i64 x44_15b,.int .i64 x44_15c,.int .i64 x44_15d,Sl.v (⟨none,0,0⟩:Sl),Sl.v (⟨none,0,0⟩:Sl),.int .i64 0] 0 I) [.int .i64 x.ver,.int .i64 x.ctr,.int .i64 x.own,.int .i64 x.kids] 0 I:=fun x ds tag5 I5 st5 rd e z1 z2 z3=>by
    refine xh (tag:=tag5) 0 st5.sep rfl (by simp[qh]) fun Z tag6 I6 st6 r6=>?_
    refine⟨x.ver,x.ctr,x.own,x.kids,qz (r6.read (st6 []).sep) rfl,?_⟩
    have y6:=(y4.keepC st5).keep (st6 [])
    have:=pg (Q:=Q) x nS ds nS nS y6 rfl (st6 []).sep fun I7 st7=>?_
    .unfold acL at this;rw[z1,z2,z3]at this;exact this
    .have k7:StepS CGe ro tag I tag6 I7:=k4.trans ((st5.s (by simp)).trans ((qv st6).trans (st7.s (by simp))))
     have k47:StepS [0,47] ro tag4 I4 tag6 I7:=(st5.s (by simp)).trans ((qv st6).trans (st7.s (by simp)))
     rw[e]
     refine q4 ds tag6 I7 k7 (h4.keepS k47) ?_
     rw[<-e]
     exact((rd.keep (st6 [])).keep st7)
   refine agb (r:=10) g (by decide) (by decide) (by decide) hT (fun p n hp=>akQ i.tree hp) (fun hp=>?_) (fun ps hp hl tag5 I5 st5=>?_) (fun n hn ds tag5 I5 st5 rd=>?_)
   .rw[L_S]at hp
    unfold atE at h0
    rw[if_pos hp]at h0;cases h0
   .rw[L_S]at hl
    exact fin (zh 70) nS tag5 I5 st5 (Row.nil 6 5) (by rw[hl]) rfl rfl rfl
   .rw[L_S]at hn
    exact fin {Rep.zero with data:=n.data,ver:=n.ver,ctr:=n.ctr,own:=n.own,kids:=n.kids} ds tag5 I5 st5 rd (by rw[hn]) rfl rfl rfl
  refine⟨c.watch,(x3.read hs3).2.2 _ rfl 10 _ rfl,?_⟩
  cases hw:c.watch with
  | false=>
   rw[if_neg (by simp)]
   rw[if_neg (by simp[hw])]at hQ
   simp only[hw,Bool.false_eq_true,if_false]at hQ
   exact tail s.hub tag3 I3 (StepS.refl hs3) h3 x3 hQ
  | true=>
   rw[if_pos rfl]
   refine amU (kind:=1) (K:=fun v I=>if¬(v=0)then wK B ro v I (ajA ro R Q)else kl B ro (some ⟨W,0,none⟩) X R Q I) g hs3 h3 i x3 fun tag4 I4 st4 h4 x4=>?_
   by_cases e:(pE s.hub c.key (c.path,1)).2=0
   .rw[if_neg (by simpa using e)]
    rw[if_neg (by simp[hw,e])]at hQ
    simp only[hw,if_true]at hQ
    exact tail _ tag4 I4 st4 h4 x4 hQ
   .rw[if_pos e]
    rw[if_pos ⟨hw,e⟩]at hQ
    refine abm (tag:=tag4) fun tag5 I5 st5=>?_
    have y5:=(y3.keepS st4).keep (st5 [])
    refine pg (Q:=Q) (zh (pE s.hub c.key (c.path,1)).2) nS nS nS nS y5 rfl (st5 []).sep fun I6 st6=>?_
    have k6:StepS CGe ro tag I tag5 I6:=(qv k3).trans ((st4.mono (by decide)).trans ((qv st5).trans (st6.s (by simp))))
    have hh:pE s.hub c.key (c.path,1)=(s.hub,(pE s.hub c.key (c.path,1)).2):=amT e
    have h4':wJ tag4 I4 W T Tt Th ms0 s:=by
     have:=h4
     rw[hh]at this
     exact this
    exact hQ nS tag5 I6 k6 ((h4'.fresh st5).keepS (st6.s (C:=[47]) (by simp))) (Row.nil 6 5)
 .rw[if_pos (by simpa using h0)]
  rw[if_pos (by simpa using h0)]at hQ
  refine abm (tag:=tag3) fun tag4 I4 st4=>?_
  have y4:=y3.keep (st4 [])
  refine pg (Q:=Q) (zh (atE c)) nS nS nS nS y4 rfl (st4 []).sep fun I5 st5=>?_
  exact hQ nS tag4 I5 ((qv fun R=>(k3 R).trans (st4 R)).trans (st5.s (by simp))) ((h3.fresh st4).keepS (st5.s (C:=[47]) (by simp))) (Row.nil 6 5)
abbrev CLi:List Nat:=[0,42,47,59,60,61,62]
theorem arj{Q:RQ}(g:wV ro)(h:wJ tag I W T Tt Th ms0 s)(i:vE b s)(hb:b<=33554433)
  (hQ:∀ ns tag' I',StepS CLi ro tag I tag' I'->wJ tag' I' W T Tt Th ms0 (aaQ s c).1->Row tag' I' 42 9 ns ((aaQ s c).2.names.map Pa.vS)->adr Q (aaQ s c).2 nS nS ns nS I'):
  aa3 B ro (some ⟨W,0,none⟩) c.kind (S c.home) c.session c.req c.nonce c.lease c.beats c.ack os (S c.path) c.watch c.epoch ms I Q:=by
 refine ahE fun hs=>?_
 unfold abk
 refine qj (tag:=tag) 46 hs fun X tag1 I1 st1 r1=>?_
 refine qj (tag:=tag1) 47 (st1 []).sep fun R tag2 I2 st2 r2=>?_
 have x2:=r1.keep (st2 [])
 refine⟨_,_,_,_,_,_,_,_,_,_,_,_,_,qz (x2.read (st2 []).sep) rfl,?_⟩
 refine arS (tag:=tag2) g fun tag3 I3 st3=>?_
 have hs3:=(st3 []).sep
 have k3:∀ R,qe R ro tag I tag3 I3:=fun R=>(st1 R).trans ((st2 R).trans (st3 R))
 have h3:=h.fresh k3
 have x3:=x2.keep (st3 [])
 have y3:=r2.keep (st3 [])
 unfold aaQ at hQ
 have flt:∀ (e:Int) tag4 I4,StepS CLi ro tag I tag4 I4->wJ tag4 I4 W T Tt Th ms0 s->Row tag4 I4 47 30 ⟨some ⟨R,0,none⟩,12,12⟩ (acL Rep.zero nS nS nS nS)->(∀ns tag' I',StepS CLi ro tag I tag' I'->wJ tag' I' W T Tt Th ms0 s->Row tag' I' 42 9 ns ([]:List Value)->adr Q (zh e) nS nS ns nS I')->wK B ro e I4 (ajA ro R Q):=fun e tag4 I4 k4 h4 y4 q=>by
  refine abm (tag:=tag4) fun tag5 I5 st5=>?_
  have y5:=y4.keep (st5 [])
  refine pg (Q:=Q) (zh e) nS nS nS nS y5 rfl (st5 []).sep fun I6 st6=>?_
  exact q nS tag5 I6 (k4.trans ((qv st5).trans (st6.s (by simp)))) ((h4.fresh st5).keepS (st6.s (C:=[47]) (by simp))) (Row.nil _ _)
 by_cases h0:atE c=0
 .rw[if_neg (by simpa using h0)]
  rw[if_neg (by simpa using h0)]at hQ
  have hp0:parts c.path≠none:=fun e=>by unfold atE at h0;rw[if_pos e]at h0;cases h0
  refine⟨_,rfl,some ⟨T,0,none⟩,(h3.own.read hs3).2.2 _ rfl 2 _ rfl,S c.path,(x3.read hs3).2.2 _ rfl 9 _ rfl,?_⟩
  obtain⟨MT,bsT,hT⟩:=h3.tree
  have hlen:=i.tree.len
  have fin:∀ (x:Rep) (s':Sto) (ns:Sl) tag5 I5,StepS CLi ro tag I tag5 I5->wJ tag5 I5 W T Tt Th ms0 s'->Row tag5 I5 47 30 ⟨some ⟨R,0,none⟩,12,12⟩ (acL Rep.zero nS nS nS nS)->Row tag5 I5 42 9 ns (x.names.map Pa.vS)->
    (∀ns tag' I',StepS CLi ro tag I tag' I'->wJ tag' I' W T Tt Th ms0 s'->Row tag' I' 42 9 ns (x.names.map Pa.vS)->adr Q x nS nS ns nS I')->stN ⟨R,0,none⟩ (akZ ro R Q) (acL x nS nS ns nS) 0 I5:=fun x s' ns tag5 I5 k5 h5 y5 n5 q=>by
   refine pg (Q:=Q) x nS nS ns nS y5 rfl k5.sep fun I6 st6=>?_
   exact q ns tag5 I6 (k5.trans (st6.s (by simp))) (h5.keepS (st6.s (C:=[47]) (by simp))) (n5.keep st6)
  refine am0 (q:=42) g (by decide) (by decide) (by decide) hT (fun p hp=>i.tree.inv.path p.1 p.2 ((qW i.tree.inv.keys).2 hp)) (by omega) (fun hp=>?_) (fun ps hp hl=>?_) fun n hn ns tag4 I4 ks st4 hpm hsr rn=>?_
  .rw[L_S]at hp;exact absurd hp hp0
  .rw[L_S]at hl
   rw[hl]at hQ
   rw[if_neg (by decide)]
   unfold ky
   rw[if_neg (by simp)]
   unfold zV
   exact fin (zh 70) s nS tag3 I3 (qv k3) h3 y3 (Row.nil _ _) hQ
  .rw[L_S]at hn rn
   rw[hn]at hQ
   simp only at hQ
   rw[agU i.tree.inv.keys hpm hsr]at rn
   have rn:Row tag4 I4 42 9 ns ((al4 s.tree c.path).map Pa.vS):=rn
   have hs4:=st4.sep
   have k4:StepS CLi ro tag I tag4 I4:=(qv k3).trans (st4.s (by simp))
   have s4:StepS [42] ro tag3 I3 tag4 I4:=st4.s (by simp)
   have h4:=h3.keepS s4
   have x4:=x3.keepS s4
   have y4:=y3.keepS s4
   rw[if_pos rfl]
   refine⟨c.watch,(x4.read hs4).2.2 _ rfl 10 _ rfl,?_⟩
   unfold ky
   cases hw:c.watch with
   | false=>
    rw[if_neg (by simp)]
    rw[if_neg (by simp[hw])]at hQ
    simp only[hw,Bool.false_eq_true,if_false]at hQ
    unfold zV
    exact fin {Rep.zero with names:=al4 s.tree c.path} s ns tag4 I4 k4 h4 y4 rn hQ
   | true=>
    rw[if_pos rfl]
    refine amU (kind:=2) (K:=fun v I=>if¬(v=0)then wK B ro v I (ajA ro R Q)else zV B ro R ns 0 Q I) g hs4 h4 i x4 fun tag5 I5 st5 h5 x5=>?_
    have k5:=k4.trans (st5.mono (by decide))
    have y5:=y4.keepS st5
    by_cases e:(pE s.hub c.key (c.path,2)).2=0
    .rw[if_neg (by simpa using e)]
     rw[if_neg (by simp[hw,e])]at hQ
     simp only[hw,if_true]at hQ
     unfold zV
     exact fin {Rep.zero with names:=al4 s.tree c.path} _ ns tag5 I5 k5 h5 y5 (rn.keepS st5) hQ
    .rw[if_pos e]
     rw[if_pos ⟨hw,e⟩]at hQ
     rw[amT e]at h5
     exact flt _ tag5 I5 k5 h5 y5 hQ
 .rw[if_pos (by simpa using h0)]
  rw[if_pos (by simpa using h0)]at hQ
  exact flt (atE c) tag3 I3 (qv k3) h3 y3 hQ
theorem akj{l:List Int}:∀ (b:Option Int),aj7 l b=true↔∀ j (hj:j<l.length),0<=l[j]/\l[j]<=31/\(∀x,(if j=0 then b else l[j - 1]?)=some x->x<l[j]):=by
 induction l with
 | nil=>intro b;exact⟨fun _ j hj=>by simp at hj,fun _=>rfl⟩
 | cons m l ih=>
  intro b
  unfold aj7
  simp only[Bool.and_eq_true,decide_eq_true_eq]
  rw[ih (some m)]
  constructor
  .rintro⟨⟨⟨h1,h2⟩,h3⟩,h4⟩ j hj
   cases j with
   | zero=>
    refine⟨h1,h2,fun x hx=>?_⟩
    simp only[if_true]at hx
    rw[hx]at h3
    simpa using h3
   | succ j=>
    have hj':j<l.length:=by simpa using hj
    obtain⟨a,b',c⟩:=h4 j hj'
    refine⟨a,b',fun x hx=>c x ?_⟩
    cases j with
    | zero=>simpa using hx
    | succ j=>simpa using hx
  .intro h
   refine⟨⟨⟨(h 0 (by simp)).1,(h 0 (by simp)).2.1⟩,?_⟩,fun j hj=>?_⟩
   .cases b with
    | none=>rfl
    | some x=>
     have:=(h 0 (by simp)).2.2 x (by simp)
     rw[decide_eq_true_iff];exact this
   .obtain⟨a,b',c⟩:=h (j+1) (by simpa using hj)
    refine⟨a,b',fun x hx=>c x ?_⟩
    cases j with
    | zero=>simpa using hx
    | succ j=>simpa using hx
theorem anR{s:Sl}{l:List Int}{Q:Bool->AH->Prop}(h:SL.zw ro I s (l.map vI))(hl:l.length<=1048576)(hQ:Q (aae l) I):xJ B ro s I Q:=by
 refine acT fun _=>?_
 unfold yA
 have hln:s.len=l.length:=by rw[h.1,List.length_map]
 suffices∀m j,j+m=l.length->(∀k (hk:k<l.length),k<j->0<=l[k]/\l[k]<=31/\(∀x,(if k=0 then none else l[k - 1]?)=some x->x<l[k]))->lfpD (wh B ro s Q) (j:Int) I from
  this _ 0 (Nat.zero_add _) (fun k _ hk=>by omega)
 intro m
 induction m with
 | zero=>
  intro j hj hall
  refine lfpD.intro ?_
  unfold wh
  rw[if_neg (by omega)]
  unfold xv
  have e:aae l=(decide (1<=(s.len:Int)) && decide ((s.len:Int)<=7)):=by
   unfold aae
   rw[(akj none).2 fun k hk=>hall k hk (by omega),Bool.true_and,show decide (1<=(s.len:Int))=decide (1<=l.length)from decide_eq_decide.2 (by omega),show decide ((s.len:Int)<=7)=decide (l.length<=7)from decide_eq_decide.2 (by omega)]
  rw[<-e];exact hQ
 | succ m ih=>
  intro j hj hall
  have hjl:j<l.length:=by omega
  obtain⟨p,hp⟩:∃ p,s.a=some p:=by
   cases e:s.a with
   | none=>have:=h.2.1 e;simp at this;rw[this]at hjl;simp at hjl
   | some p=>exact⟨p,rfl⟩
  have gj:=h.2.2 p hp j (vI l[j]) (by rw[List.getElem?_map,List.getElem?_eq_getElem hjl];try rfl)
  have bad:∀ {c:Bool},c=true->¬ (0<=l[j]/\l[j]<=31/\(∀x,(if j=0 then none else l[j - 1]?)=some x->x<l[j]))->wy B ro s (j:Int) Q (lfpD (wh B ro s Q)) c I:=fun hc hn=>by
   unfold wy
   rw[if_pos hc]
   have:aae l=false:=by
    unfold aae
    have:aj7 l none=false:=by
     rw[<-Bool.not_eq_true]
     intro e
     exact hn ((akj none).1 e j hjl)
    rw[this];try rfl
   rw[this]at hQ;exact hQ
  have good:∀ {c:Bool},c=false->(0<=l[j]/\l[j]<=31/\(∀x,(if j=0 then none else l[j - 1]?)=some x->x<l[j]))->wy B ro s (j:Int) Q (lfpD (wh B ro s Q)) c I:=fun hc hg=>by
   unfold wy
   rw[if_neg (by simp[hc]),Pa.inc j (by omega)]
   refine ih (j+1) (by omega) fun k hk hkj=>?_
   rcases Nat.lt_or_ge k j with h | h
   .exact hall k hk h
   .have:k=j:=by omega
    subst this;exact hg
  refine lfpD.intro ?_
  unfold wh
  rw[if_pos (by omega)]
  refine⟨p,hp,by omega,by omega,l[j],by rw[Int.toNat_natCast,Nat.mul_one];exact gj,?_⟩
  by_cases c1:l[j]<0\/31<l[j]
  .rw[if_pos c1]
   exact bad rfl fun hn=>by omega
  rw[if_neg c1]
  by_cases c2:0<j
  .rw[if_pos (by omega)]
   have ew:i64.wrap ((j:Int) - 1)=((j - 1:Nat):Int):=by rw[SL.wb (by omega) (by omega)];omega
   rw[ew]
   have hj1:j - 1<l.length:=by omega
   have gj1:=h.2.2 p hp (j - 1) (vI l[j - 1]) (by rw[List.getElem?_map,List.getElem?_eq_getElem hj1];try rfl)
   refine⟨p,hp,by omega,by omega,l[j - 1],by rw[Int.toNat_natCast,Nat.mul_one];exact gj1,?_⟩
   unfold zo
   by_cases c3:l[j]<=l[j - 1]
   .exact bad (by simpa using c3) fun hn=>by
     have:=hn.2.2 l[j - 1] (by rw[if_neg (by omega),List.getElem?_eq_getElem hj1]);omega
   .refine good (by simpa using c3) ⟨by omega,by omega,fun x hx=>?_⟩
    rw[if_neg (by omega),List.getElem?_eq_getElem hj1]at hx
    cases hx;omega
  .rw[if_neg (by omega)]
   unfold zo
   exact good rfl ⟨by omega,by omega,fun x hx=>by rw[if_pos (by omega)]at hx;cases hx⟩
abbrev CRc:List Nat:=[0,51,54]
theorem aoI{Q:RQ}(h:wJ tag I W T Tt Th ms0 s)(i:vE b s)(hb:b<=33554433)(hm:Row tag I 28 3 ms (c.members.map vI))(hl:c.members.length<=1048576)
  (hQ:∀ ms' tag' I',StepS CRc ro tag I tag' I'->wJ tag' I' W T Tt Th ms' (acS s c).1->adr Q (acS s c).2 nS nS nS nS I'):
  uT B ro (some ⟨W,0,none⟩) c.kind (S c.home) c.session c.req c.nonce c.lease c.beats c.ack os (S c.path) c.watch c.epoch ms I Q:=by
 refine ago fun hs=>?_
 unfold aah
 refine qj (tag:=tag) 50 hs fun X tag1 I1 st1 r1=>?_
 refine qj (tag:=tag1) 51 (st1 []).sep fun R tag2 I2 st2 r2=>?_
 have hs2:=(st2 []).sep
 have k2:∀ R,qe R ro tag I tag2 I2:=fun R=>(st1 R).trans (st2 R)
 have x2:=r1.keep (st2 [])
 have h2:=h.fresh k2
 have m2:=hm.keep (k2 [])
 refine⟨ms,(x2.read hs2).2.2 _ rfl 12 _ rfl,?_⟩
 refine anR (m2.read hs2) hl ?_
 unfold acS at hQ
 have flt:∀ (e:Int),(∀ms' tag' I',StepS CRc ro tag I tag' I'->wJ tag' I' W T Tt Th ms' s->adr Q (zh e) nS nS nS nS I')->wK B ro e I2 (ajA ro R Q):=fun e q=>by
  refine abm (tag:=tag2) fun tag5 I5 st5=>?_
  have y5:=r2.keep (st5 [])
  refine pg (Q:=Q) (zh e) nS nS nS nS y5 rfl (st5 []).sep fun I6 st6=>?_
  exact q ms0 tag5 I6 ((qv k2).trans ((qv st5).trans (st6.s (by simp)))) ((h2.fresh st5).keepS (st6.s (C:=[51]) (by simp)))
 cases h1:aae c.members with
 | false=>
  rw[if_pos (by simp)]
  rw[if_pos h1]at hQ
  exact flt 190 hQ
 | true=>
 rw[if_neg (by simp)]
 rw[if_neg (by simp[h1])]at hQ
 refine⟨_,rfl,c.epoch,(x2.read hs2).2.2 _ rfl 11 _ rfl,s.epoch,(h2.own.read hs2).2.2 _ rfl 0 _ rfl,?_⟩
 by_cases h3:c.epoch=s.epoch
 .rw[if_neg (by simpa using h3)]
  rw[if_neg (by simpa using h3)]at hQ
  refine jF tag2 [54] ?_
  have hsA:SL.Sep (join ro (SL.inR tag2 [54] I2)) (SL.zJ tag2 [54] I2):=hs2.lentR
  refine⟨_,rfl,s.epoch,h2.own.lendR hs2 (by simp) rfl (i:=0) rfl,ms,((x2.outR (L:=[54]) (by decide)).read hsA).2.2 _ rfl 12 _ rfl,?_⟩
  refine afz (tag:=tag2) 118 ((m2.read hs2).lentR hs2) hsA (by simpa using hl) (by simp[qh]) fun ms' tag3 I3 st3 r3=>⟨_,rfl,fun hd=>?_⟩
  have kA:StepS [] ro tag2 I2 _ _:=(qv st3).backR hs2 hd
  have o3:=h2.own.againR (L:=[54]) (tag1:=tag3) (τ:=I3) (by simp)
  have r3':=r3.backR (I:=I2) (tag:=tag2) (L:=[54]) hd
  have h3:=h2.keepS kA (by simp)
  generalize (join (SL.inR tag2 [54] I2) I3)=I4 at kA o3 r3' h3⊢
  generalize (tagB tag2 tag3 [54] I2)=tag4 at kA o3 r3' h3
  have hep:=i.ep
  rw[show i64.wrap (s.epoch+1)=s.epoch+1 from SL.wb (by omega) (by omega)]
  refine o3.stPre [vI (s.epoch+1)] 0 _ I4 kA.sep (by simp) (by simp[qh]) fun I5 st5 o5=>?_
  refine⟨_,rfl,?_⟩
  refine Row.stAt [Sl.v ms'] 1 o5 st5.sep (by simp) (by simp[qh,Sl.v]) fun I6 st6 o6=>?_
  have k46:qe [54] ro tag4 I4 tag4 I6:=st5.trans st6
  have o6':Row tag4 I6 54 153 ⟨some ⟨W,0,none⟩,5,5⟩ [vI (s.epoch+1),Sl.v ms',ptr T,ptr Tt,ptr Th]:=o6
  refine⟨_,rfl,s.epoch+1,(o6'.read st6.sep).2.2 _ rfl 0 _ rfl,?_⟩
  have y6:=((r2.keepS kA (by simp)).keep k46)
  refine pg (Q:=Q) {Rep.zero with epoch:=s.epoch+1} nS nS nS nS y6 rfl st6.sep fun I7 st7=>?_
  have k47:qe [51,54] ro tag4 I4 tag4 I7:=(k46.mono (by simp)).trans (st7.mono (by simp))
  have h7:StepS CRc ro tag I tag4 I7:=(qv k2).trans ((kA.mono (by simp)).trans (k47.s (by simp)))
  refine hQ ms' tag4 I7 h7 ⟨o6'.keep st7,r3'.keep k47,?_,?_,?_⟩
  .exact h3.tree.keepS (k47.s (C:=[51,54]) (by simp))
  .exact h3.tbl.keepS (k47.s (C:=[51,54]) (by simp))
  .exact h3.hub.keepS (k47.s (C:=[51,54]) (by simp))
 .rw[if_pos h3]
  rw[if_pos h3]at hQ
  exact flt 191 hQ
end Zt
namespace Zt
open Go SL G Pa Wi
variable{B:World}{ro I I':AH}{tag tag':Nat->Nat}
theorem adh.outR{L:List Nat}{q:Nat}{s:Sl}{ops:List MOp}(h:adh tag I q s ops)(hq:q∉L)(h6:6∉L):adh tag (SL.zJ tag L I) q s ops:=by
 obtain⟨ds,h1,h2,h3⟩:=h
 exact⟨ds,h1,qq.outR h2 hq,fun i o d ho hd=>aaH.outR (h3 i o d ho hd) h6⟩
theorem aec.keepS{C:List Nat}{os ms:Sl}{c:vY}(h:aec tag I 24 28 os ms c)(k:StepS C ro tag I tag' I')(hC:24∉C/\28∉C/\6∉C:=by decide):aec tag' I' 24 28 os ms c:=⟨adh.keepS h.ops k hC.1 hC.2.2,h.mem.keepS k hC.2.1⟩
theorem asA{home:Str}{owner qn qb:Int}{ops:List MOp}{st:St}:(qS st home owner qn qb ops).eff.length<=16:=by
 have key:∀ (os:List MOp) (i:Nat) (w v:uG),vg home owner qn qb os i w= .inr v->v.eff.length<=w.eff.length+os.length:=by
  intro os
  induction os with
  | nil=>intro i w v h;cases h;simp
  | cons o os ih=>
   intro i w v h
   unfold vg at h
   split at h
   .cases h
   .have:=ih _ _ _ h
    have h2:=(anK (home:=home) (owner:=owner) (qn:=qn) (qb:=qb) (w:=w) (o:=o)).2
    simp only[List.length_cons]
    omega
 unfold qS
 split
 .simp
 .split
  .simp
  .cases e:vg home owner qn qb ops 0 ⟨srt st,[],[]⟩with
   | inl x=>simp[abg]
   | inr w=>
    have:=key _ _ _ _ e
    simp only[abg]
    simp at this
    omega
theorem aly{s:Sto}{c:vY}:(adl s c).2.results=[]/\(adl s c).2.names=[]/\(adl s c).2.events=[]:=by
 unfold adl
 split
 .exact⟨rfl,rfl,rfl⟩
 .split
  .exact⟨rfl,rfl,rfl⟩
  .simp only
   split<;>exact⟨rfl,rfl,rfl⟩
theorem akk{s:Sto}{c:vY}:(aaQ s c).2.results=[]/\(aaQ s c).2.data=[]/\(aaQ s c).2.events=[]:=by
 unfold aaQ
 split
 .exact⟨rfl,rfl,rfl⟩
 .split
  .exact⟨rfl,rfl,rfl⟩
  .split<;>exact⟨rfl,rfl,rfl⟩
abbrev CDo:List Nat:=[0,1,2,3,4,5,10,12,13,14,15,17,18,19,20,21,25,26,27,30,31,42,45,47,57,58,59,60,61,62]
theorem atc{b W T Tt Th:Nat}{ms0 os ms:Sl}{s:Sto}{c:vY}{Q:RQ}(g:wV ro)(h:wJ tag I W T Tt Th ms0 s)(i:vE b s)(hb:b<=33554432)(hc:aec tag I 24 28 os ms c)(hsm:agt c)
  (hQ:∀ rs ds ns tag' I',StepS CDo ro tag I tag' I'->wJ tag' I' W T Tt Th ms0 (doS s c).1->qq tag' I' 14 128 2 rs ((doS s c).2.results.map uj)->Row tag' I' 6 5 ds ((doS s c).2.data.map vU)->Row tag' I' 42 9 ns ((doS s c).2.names.map Pa.vS)->adr Q (doS s c).2 rs ds ns nS I'):
  acp B ro (some ⟨W,0,none⟩) c.kind (S c.home) c.session c.req c.nonce c.lease c.beats c.ack os (S c.path) c.watch c.epoch ms I Q:=by
 refine aiS fun hs=>?_
 unfold acH
 refine qj (tag:=tag) 44 hs fun X tag1 I1 st1 r1=>?_
 refine qj (tag:=tag1) 45 (st1 []).sep fun R tag2 I2 st2 r2=>?_
 have hs2:=(st2 []).sep
 have k2:∀ R,qe R ro tag I tag2 I2:=fun R=>(st1 R).trans (st2 R)
 have x2:=r1.keep (st2 [])
 have h2:=h.fresh k2
 have c2:=hc.keepS (qv (C:=[]) k2) (by simp)
 refine⟨c.kind,(x2.read hs2).2.2 _ rfl 0 _ rfl,?_⟩
 unfold doS at hQ
 have zero:∀ (s':Sto) tag3 I3,StepS CDo ro tag I tag3 I3->wJ tag3 I3 W T Tt Th ms0 s'->Row tag3 I3 45 30 ⟨some ⟨R,0,none⟩,12,12⟩ (acL Rep.zero nS nS nS nS)->
   (∀rs ds ns tag' I',StepS CDo ro tag I tag' I'->wJ tag' I' W T Tt Th ms0 s'->qq tag' I' 14 128 2 rs (Rep.zero.results.map uj)->Row tag' I' 6 5 ds (Rep.zero.data.map vU)->Row tag' I' 42 9 ns (Rep.zero.names.map Pa.vS)->adr Q Rep.zero rs ds ns nS I')->xZ B ro R Q I3:=fun s' tag3 I3 k3 h3 y3 q=>by
  unfold xZ
  refine pg (Q:=Q) Rep.zero nS nS nS nS y3 rfl k3.sep fun I4 st4=>?_
  exact q nS nS nS tag3 I4 (k3.trans (st4.s (by simp))) (h3.keepS (st4.s (C:=[45]) (by simp))) (qq.nil _ _ _) (Row.nil _ _) (Row.nil _ _)
 by_cases k1:c.kind=2
 .rw[if_pos k1]at hQ⊢
  refine jF tag2 [54,44] ?_
  have hsA:SL.Sep (join ro (SL.inR tag2 [54,44] I2)) (SL.zJ tag2 [54,44] I2):=hs2.lentR
  obtain⟨M,bs,tbl⟩:=h2.tbl
  have tA:=tbl.outR (L:=[54,44]) (by decide)
  refine⟨_,rfl,some ⟨Tt,0,none⟩,h2.own.lendR hs2 (by simp) rfl (i:=3) rfl,_,_,_,_,_,_,_,_,_,_,_,_,_,Row.lendAll x2 hs2 (by simp),?_⟩
  refine agv (tag:=tag2) fun tag3 I3 st3=>?_
  refine qj (tag:=tag3) 53 (st3 []).sep fun Y tag4 I4 st4 r4=>?_
  refine apO (b0:=b) (home:=c.home) (n:=c.session) ((tA.fresh st3).fresh st4) i.tbl (by omega) (by decide) r4 fun tag5 I5 st5 tbl5=>?_
  intro hd
  have kA:StepS [58] ro tag2 I2 _ _:=((qv fun R=>(st3 R).trans (st4 R)).trans st5).backR hs2 hd
  refine zero {s with tbl:=(ab4 s.tbl c.key).1} _ _ ((qv k2).trans (kA.mono (by decide))) ⟨h2.own.againR (by simp),h2.mem.keepS kA,h2.tree.keepS kA,⟨M,bs,tbl5.backR hd⟩,h2.hub.keepS kA⟩ (r2.keepS kA) hQ
 rw[if_neg k1]at hQ⊢
 by_cases k5:c.kind=5
 .rw[if_pos k5]at hQ⊢
  unfold afe at hQ
  simp only at hQ
  refine jF tag2 [54,44] ?_
  have hsA:SL.Sep (join ro (SL.inR tag2 [54,44] I2)) (SL.zJ tag2 [54,44] I2):=hs2.lentR
  have tA:=h2.tree.outR (L:=[54,44]) (by decide)
  have oA:=adh.outR (L:=[54,44]) c2.ops (by decide) (by decide)
  refine⟨_,rfl,some ⟨T,0,none⟩,h2.own.lendR hs2 (by simp) rfl (i:=2) rfl,S c.home,x2.lendR hs2 (by simp) rfl (i:=1) rfl,c.session,x2.lendR hs2 (by simp) rfl (i:=2) rfl,os,x2.lendR hs2 (by simp) rfl (i:=8) rfl,?_⟩
  refine ari (tag:=tag2) fun tag3 I3 st3=>?_
  have hh:=hsm.home
  refine aqM (b:=20*b) (q:=24) (acR g) (by decide) (by decide) (by decide) (by decide) (by decide) (by decide) (tA.keep (st3 [])) i.tree (by omega) (adh.keepS oA (qv (C:=[]) st3) (by simp) (by simp)) (fun o ho=>by have:=(hsm.ops o ho).2;omega) (by omega) fun rs es tag4 I4 st4 t4 rr4 re4=>?_
  refine xh (tag:=tag4) (vs:=[Sl.v rs,Sl.v es,.int .i64 (qS s.tree c.home c.session 64 8192 c.ops).bad]) 43 st4.sep rfl (by simp[qh,Sl.v]) fun Y tag5 I5 st5 y5=>?_
  intro hd
  have kA0:StepS (10::DA) (join ro (SL.inR tag2 [54,44] I2)) tag2 (SL.zJ tag2 [54,44] I2) tag5 I5:=(qv st3).trans (st4.trans (qv st5))
  have kA:=kA0.backR hs2 hd
  have o6:=h2.own.againR (L:=[54,44]) (tag1:=tag5) (τ:=I5) (by simp)
  have t6:=(t4.keep (st5 [])).backR (I:=I2) (tag:=tag2) (L:=[54,44]) hd
  have rr6:=qq.backR (I:=I2) (tag:=tag2) (L:=[54,44]) (qq.keep rr4 (st5 [])) hd
  have re6:=qq.backR (I:=I2) (tag:=tag2) (L:=[54,44]) (qq.keep re4 (st5 [])) hd
  have y6:=y5.backR (I:=I2) (tag:=tag2) (L:=[54,44]) hd
  have m6:=h2.mem.keepS kA
  have tb6:=h2.tbl.keepS kA
  obtain⟨M,bs,hub6⟩:=h2.hub.keepS kA
  have z6:=r2.keepS kA
  generalize (join (SL.inR tag2 [54,44] I2) I5)=I6 at kA o6 t6 rr6 re6 y6 m6 tb6 hub6 z6⊢
  generalize (tagB tag2 tag5 [54,44] I2)=tag6 at kA o6 t6 rr6 re6 y6 m6 tb6 hub6 z6
  have hs6:=kA.sep
  refine⟨_,rfl,some ⟨Th,0,none⟩,(o6.read hs6).2.2 _ rfl 4 _ rfl,es,(y6.read hs6).2.2 _ rfl 1 _ rfl,?_⟩
  have hel:(qS s.tree c.home c.session 64 8192 c.ops).eff.length<=16:=asA
  refine amP (b0:=b) g hub6 i.hub (by omega) re6 (by decide) (by omega) fun n tag7 I7 st7 hub7=>?_
  have y7:=y6.keepS st7
  have gy:=(y7.read st7.sep).2.2 _ rfl
  refine⟨rs,gy 0 _ rfl,_,gy 2 _ rfl,?_⟩
  refine pg (Q:=Q) {Rep.zero with code:=(qS s.tree c.home c.session 64 8192 c.ops).err,results:=(qS s.tree c.home c.session 64 8192 c.ops).res,bad:=(qS s.tree c.home c.session 64 8192 c.ops).bad} rs nS nS nS (z6.keepS st7) rfl st7.sep fun I8 st8=>?_
  have k68:StepS [0,45,59,60,61] ro tag6 I6 tag7 I8:=(st7.mono (by decide)).trans (st8.s (by simp))
  refine hQ rs nS nS tag7 I8 ((qv k2).trans ((kA.mono (by decide)).trans (k68.mono (by decide)))) ⟨o6.keepS k68,m6.keepS k68,t6.keepS k68,tb6.keepS k68,⟨M,bs,hub7.keepS (st8.s (C:=[45]) (by simp))⟩⟩ (qq.keepS rr6 k68) (Row.nil _ _) (Row.nil _ _)
 rw[if_neg k5]at hQ⊢
 by_cases k6:c.kind=6
 .rw[if_pos k6]at hQ⊢
  refine⟨_,_,_,_,_,_,_,_,_,_,_,_,_,qz (x2.read hs2) rfl,?_⟩
  refine asz g h2 i fun ds tag3 I3 st3 h3 d3=>?_
  obtain⟨e1,e2,e3⟩:=aly (s:=s) (c:=c)
  refine pg (Q:=Q) (adl s c).2 nS ds nS nS (r2.keepS st3) rfl st3.sep fun I4 st4=>?_
  exact hQ nS ds nS tag3 I4 ((qv k2).trans ((st3.mono (by decide)).trans (st4.s (by simp)))) (h3.keepS (st4.s (C:=[45]) (by simp))) (by rw[e1];exact qq.nil _ _ _) (d3.keep st4) (by rw[e2];exact Row.nil _ _)
 rw[if_neg k6]at hQ⊢
 by_cases k7:c.kind=7
 .rw[if_pos k7]at hQ⊢
  refine⟨_,_,_,_,_,_,_,_,_,_,_,_,_,qz (x2.read hs2) rfl,?_⟩
  refine arj g h2 i (by omega) fun ns tag3 I3 st3 h3 n3=>?_
  obtain⟨e1,e2,e3⟩:=akk (s:=s) (c:=c)
  refine pg (Q:=Q) (aaQ s c).2 nS nS ns nS (r2.keepS st3) rfl st3.sep fun I4 st4=>?_
  exact hQ nS nS ns tag3 I4 ((qv k2).trans ((st3.mono (by decide)).trans (st4.s (by simp)))) (h3.keepS (st4.s (C:=[45]) (by simp))) (by rw[e1];exact qq.nil _ _ _) (by rw[e2];exact Row.nil _ _) (n3.keep st4)
 rw[if_neg k7]at hQ⊢
 exact zero s tag2 I2 (qv k2) h2 r2 hQ
theorem ark{t:Tbl}{home:Str}{nonce lease:Int}(h:(vm t home nonce lease).2.2=0):we home=true:=by
 unfold vm at h
 split at h
 .cases h
 .rename_i hn;simpa using hn
theorem apT{t:Tbl}{home:Str}{nonce lease:Int}(h:¬ (vm t home nonce lease).2.2=0):(vm t home nonce lease).1=t:=by
 unfold vm at h⊢
 by_cases c1:we home=false
 .rw[if_pos c1]
 rw[if_neg c1]at h⊢
 by_cases c2:okN nonce=false
 .rw[if_pos c2]
 rw[if_neg c2]at h⊢
 by_cases c3:lease<1\/1048576<lease
 .rw[if_pos c3]
 rw[if_neg c3]at h⊢
 cases hw:adQ (qJ t home) nonce with
 | some p=>rfl
 | none=>
  rw[hw]at h
  simp only at h⊢
  by_cases c5:64<=(qJ t home).live.length\/(qJ t home).last=4611686018427387903
  .rw[if_pos c5]
  .rw[if_neg c5]at h;exact absurd rfl h
theorem arl{home:Str}(hn:we home=true):parts (47::home)=some [home]:=by
 have hl:=aa4 hn
 exact wd.2 ⟨by simp[mk],⟨by simp,fun y hy=>by rw[List.mem_singleton.1 hy];exact hn,by simp[mk];omega⟩⟩
theorem akl(home:Str):L ((⟨#[47]⟩:ByteArray)++S home)=47::home:=by
 rw[show((⟨#[47]⟩:ByteArray))=S [47]from rfl,agE,L_S];try rfl
abbrev COp:List Nat:=[0,10,49,55,56,57,58]
theorem arm{b W T Tt Th:Nat}{ms0 os ms:Sl}{s:Sto}{c:vY}{Q:RQ}(g:wV ro)(h:wJ tag I W T Tt Th ms0 s)(i:vE b s)(hb:b<=33554432)(hsm:agt c)
  (hQ:∀ tag' I',StepS COp ro tag I tag' I'->wJ tag' I' W T Tt Th ms0 (abx s c).1->adr Q (abx s c).2 nS nS nS nS I'):
  pN B ro (some ⟨W,0,none⟩) c.kind (S c.home) c.session c.req c.nonce c.lease c.beats c.ack os (S c.path) c.watch c.epoch ms I Q:=by
 refine ads fun hs=>?_
 unfold pZ
 refine qj (tag:=tag) 48 hs fun X tag1 I1 st1 r1=>?_
 refine qj (tag:=tag1) 49 (st1 []).sep fun R tag2 I2 st2 r2=>?_
 have hs2:=(st2 []).sep
 have k2:∀ R,qe R ro tag I tag2 I2:=fun R=>(st1 R).trans (st2 R)
 have x2:=r1.keep (st2 [])
 have h2:=h.fresh k2
 have hh:=hsm.home
 refine⟨S c.home,(x2.read hs2).2.2 _ rfl 1 _ rfl,by rw[af5];show 1+_<=_;omega,_,rfl,some ⟨T,0,none⟩,(h2.own.read hs2).2.2 _ rfl 2 _ rfl,?_⟩
 obtain⟨MT,bsT,hT⟩:=h2.tree
 have main:∀ (dS:Sl) (v1 v2 v3 v4 e:Int) tag3 I3,zF 0 ro tag2 I2 tag3 I3->(we c.home=true->(e=70↔(s.tree.lookup (47::c.home)).isNone=true))->
   nw ro I3 (.cells #[.int .i64 0,.int .i64 0,.int .i64 0,.int .i64 0] 26) fun x7_9 I=>
   stN ⟨x7_9,0,none⟩ (fun I=>
    ∃(x26_10:ByteArray),qa ro I ((⟨X,0,none⟩:Addr).add 1)=some (.string x26_10)/\
    yE B ro x26_10 I fun x27_11 I=>
    ∃p34_12:Addr,(some ⟨W,0,none⟩:Option Addr)=some p34_12/\
    ∃(x36_13:Option Addr),qa ro I (p34_12.add 3)=some (.pointer x36_13)/\
    ∃(x38_14:ByteArray),qa ro I ((⟨X,0,none⟩:Addr).add 1)=some (.string x38_14)/\
    ∃(x40_15:Int),qa ro I ((⟨X,0,none⟩:Addr).add 4)=some (.int .i64 x40_15)/\
    ∃(x42_16:Int),qa ro I ((⟨X,0,none⟩:Addr).add 5)=some (.int .i64 x42_16)/\
    xK B ro x36_13 x38_14 x40_15 x42_16 I fun x43_17 x43_18 x43_19 I=>
    if¬(x43_19=0)then
     wK B ro x43_19 I (ajA ro R Q)
    else
    if(x27_11=true)/\(e=70)then
     ∃p53_24:Addr,(some ⟨W,0,none⟩:Option Addr)=some p53_24/\
     ∃(x55_25:Option Addr),qa ro I (p53_24.add 2)=some (.pointer x55_25)/\
     jn B ro x55_25 ((⟨#[47]⟩:ByteArray)++S c.home) (⟨none,0,0⟩:Sl) 0 false I fun x57_26 x57_27 I=>
     zx B ro R x43_17 Q I
    else
    zx B ro R x43_17 Q I) [.int .i64 v1,.int .i64 v2,.int .i64 v3,.int .i64 v4] 0 I:=fun dS v1 v2 v3 v4 e tag3 I3 st3 he=>by
  refine xh (tag:=tag3) 0 st3.sep rfl (by simp[qh]) fun Y tag4 I4 st4 y4=>?_
  have hs4:=(st4 []).sep
  have k34:StepS [0] ro tag2 I2 tag4 I4:=(st3.s (by simp)).trans (qv st4)
  have x4:=x2.keepS k34
  have h4:=h2.keepS k34
  have z4:=r2.keepS k34
  have gx:=(x4.read hs4).2.2 _ rfl
  refine⟨S c.home,gx 1 _ rfl,?_⟩
  refine aeQ ?_
  rw[L_S]
  obtain⟨M,bs,tbl⟩:=h4.tbl
  refine⟨_,rfl,some ⟨Tt,0,none⟩,(h4.own.read hs4).2.2 _ rfl 3 _ rfl,S c.home,gx 1 _ rfl,c.nonce,gx 4 _ rfl,c.lease,gx 5 _ rfl,?_⟩
  refine aq7 tbl i.tbl (by omega) fun f tag5 I5 st5 tbl5=>?_
  have h5:wJ tag5 I5 W T Tt Th ms0 {s with tbl:=(vm s.tbl c.home c.nonce c.lease).1}:=⟨h4.own.keepS st5,h4.mem.keepS st5,h4.tree.keepS st5,tbl5,h4.hub.keepS st5⟩
  have z5:=z4.keepS st5
  have k5:StepS COp ro tag I tag5 I5:=(qv k2).trans ((k34.mono (by decide)).trans (st5.mono (by decide)))
  unfold abx at hQ
  by_cases c0:(vm s.tbl c.home c.nonce c.lease).2.2=0
  .rw[if_neg (by simpa using c0)]
   rw[if_neg (by simpa using c0)]at hQ
   have hn:=ark c0
   have fin:∀ (st':St) tag6 I6,StepS COp ro tag I tag6 I6->wJ tag6 I6 W T Tt Th ms0 {s with tbl:=(vm s.tbl c.home c.nonce c.lease).1,tree:=st'}->Row tag6 I6 49 30 ⟨some ⟨R,0,none⟩,12,12⟩ (acL Rep.zero nS nS nS nS)->
     st'=(if we c.home=true/\(s.tree.lookup (47::c.home)).isNone=true then(wt s.tree (47::c.home) [] 0 false).1 else s.tree)->zx B ro R (vm s.tbl c.home c.nonce c.lease).2.1 Q I6:=fun st' tag6 I6 k6 h6 z6 e6=>by
    subst e6
    unfold zx
    refine pg (Q:=Q) {Rep.zero with session:=(vm s.tbl c.home c.nonce c.lease).2.1} nS nS nS nS z6 rfl k6.sep fun I7 st7=>?_
    exact hQ tag6 I7 (k6.trans (st7.s (by simp))) (h6.keepS (st7.s (C:=[49]) (by simp)))
   by_cases c1:e=70
   .rw[if_pos ⟨hn,c1⟩]
    refine⟨_,rfl,some ⟨T,0,none⟩,(h5.own.read st5.sep).2.2 _ rfl 2 _ rfl,?_⟩
    refine ahU (r:=10) (d:=[]) g (by decide) (by decide) (by decide) h5.tree ⟨rfl,fun _=>rfl,fun p hp=>by cases hp⟩ (by decide) fun tag6 I6 st6 t6=>?_
    rw[akl]at t6
    refine fin (wt s.tree (47::c.home) [] 0 false).1 tag6 I6 (k5.trans (st6.s (by simp))) ⟨h5.own.keepC st6,h5.mem.keepC st6,t6,?_,?_⟩ (z5.keepC st6) (by rw[if_pos ⟨hn,(he hn).1 c1⟩])
    .exact h5.tbl.keepS (st6.s (C:=[10]) (by simp))
    .exact h5.hub.keepS (st6.s (C:=[10]) (by simp))
   .rw[if_neg (fun x=>c1 x.2)]
    exact fin s.tree tag5 I5 k5 h5 z5 (by rw[if_neg (fun x=>c1 ((he hn).2 x.2))])
  .rw[if_pos c0]
   rw[if_pos c0]at hQ
   refine abm (tag:=tag5) fun tag6 I6 st6=>?_
   refine pg (Q:=Q) (zh (vm s.tbl c.home c.nonce c.lease).2.2) nS nS nS nS (z5.keep (st6 [])) rfl (st6 []).sep fun I7 st7=>?_
   have h5':wJ tag5 I5 W T Tt Th ms0 s:=by
    have:=h5
    rw[apT c0]at this
    exact this
   exact hQ tag6 I7 (k5.trans ((qv st6).trans (st7.s (by simp)))) ((h5'.fresh st6).keepS (st7.s (C:=[49]) (by simp)))
 refine agb (r:=10) g (by decide) (by decide) (by decide) hT (fun p n hp=>akQ i.tree hp) (fun hp tag3 I3 st3=>?_) (fun ps hp hl tag3 I3 st3=>?_) (fun n hn ds tag3 I3 st3 rd=>?_)
 .rw[akl]at hp
  exact main nS 0 0 0 0 20 tag3 I3 st3 fun hn=>by
   have:parts (47::c.home)=some [c.home]:=arl hn
   rw[this]at hp;cases hp
 .rw[akl]at hl
  exact main nS 0 0 0 0 70 tag3 I3 st3 fun hn=>⟨fun _=>by rw[hl];try rfl,fun _=>rfl⟩
 .rw[akl]at hn
  exact main ds n.ver n.ctr n.own n.kids 0 tag3 I3 st3 fun _=>⟨(fun h=>by cases h),fun h=>by rw[hn]at h;cases h⟩
theorem afx.sm20{x:Rep}(h:afx x):ahf x:=⟨by have:=h.data;omega,fun y hy=>by have:=h.res y hy;omega,fun y hy=>by have:=h.names y hy;omega,fun y hy=>by have:=h.evs y hy;omega⟩
theorem arn{b:Nat}{s:Sto}{c:vY}(i:vE b s)(hb:b<=33554432):(doS s c).2.events=[]/\ -1<=(doS s c).2.bad:=by
 unfold doS
 split
 .exact⟨rfl,show(-1:Int)<=0 by decide⟩
 split
 .unfold afe
  exact⟨rfl,(aka (home:=c.home) (owner:=c.session) (qn:=64) (qb:=8192) (ops:=c.ops) i.tree (by omega)).2.2.1⟩
 split
 .refine⟨aly.2.2,?_⟩
  unfold adl
  split
  .show(-1:Int)<=0;decide
  .split
   .show(-1:Int)<=0;decide
   .simp only
    split<;>(show(-1:Int)<=0;decide)
 split
 .refine⟨akk.2.2,?_⟩
  unfold aaQ
  split
  .show(-1:Int)<=0;decide
  .split
   .show(-1:Int)<=0;decide
   .split<;>(show(-1:Int)<=0;decide)
 .exact⟨rfl,show(-1:Int)<=0 by decide⟩
structure aal(tag:Nat->Nat)(I:AH)(rs ds ns es:Sl)(x:Rep):Prop where
 res:∃ r∈[14,50],qq tag I r 128 2 rs (x.results.map uj)
 data:Row tag I 6 5 ds (x.data.map vU)
 names:∃ r∈[42,51],Row tag I r 9 ns (x.names.map Pa.vS)
 evs:∃ r∈[9,52],qq tag I r 132 3 es (x.events.map ahi)
theorem aal.keepS{C:List Nat}{rs ds ns es:Sl}{x:Rep}(h:aal tag I rs ds ns es x)(k:StepS C ro tag I tag' I')(hC:∀ y∈[6,9,14,42,50,51,52],y∉C:=by decide):aal tag' I' rs ds ns es x:=by
 obtain⟨⟨r1,e1,a⟩,b,⟨r2,e2,c⟩,⟨r3,e3,d⟩⟩:=h
 refine⟨⟨r1,e1,qq.keepS a k ?_⟩,b.keepS k (hC 6 (by decide)),⟨r2,e2,c.keepS k ?_⟩,⟨r3,e3,qq.keepS d k ?_⟩⟩
 .simp only[List.mem_cons,List.not_mem_nil,or_false]at e1
  rcases e1 with rfl | rfl
  .exact hC 14 (by decide)
  .exact hC 50 (by decide)
 .simp only[List.mem_cons,List.not_mem_nil,or_false]at e2
  rcases e2 with rfl | rfl
  .exact hC 42 (by decide)
  .exact hC 51 (by decide)
 .simp only[List.mem_cons,List.not_mem_nil,or_false]at e3
  rcases e3 with rfl | rfl
  .exact hC 9 (by decide)
  .exact hC 52 (by decide)
theorem aal.zero(x:Rep)(h1:x.results=[])(h2:x.data=[])(h3:x.names=[])(h4:x.events=[]):aal tag I nS nS nS nS x:=by
 refine⟨⟨14,by simp,?_⟩,?_,⟨42,by simp,?_⟩,⟨9,by simp,?_⟩⟩
 .rw[h1];exact qq.nil _ _ _
 .rw[h2];exact Row.nil _ _
 .rw[h3];exact Row.nil _ _
 .rw[h4];exact qq.nil _ _ _
theorem aal.fault(e:Int):aal tag I nS nS nS nS (zh e):=aal.zero _ rfl rfl rfl rfl
theorem apU{b:Nat}{t:Tbl}{k:Str×Int}{req:Int}(i:kg b t):(kk t k req).1.length<=1048576:=by
 unfold kk
 rcases ab7 t k with⟨s,e⟩ | ⟨x,_,e⟩
 .rw[e]
  simp only
  split
  .simp
  .split
   .exact(agj i e).reply
   .split<;>simp
 .rw[e];simp
abbrev CWi:List Nat:=[0,1,2,3,4,5,8,10,12,13,14,15,17,18,19,20,21,25,26,27,30,31,41,42,45,47,50,51,52,53,57,58,59,60,61,62]
theorem aoJ{b W T Tt Th:Nat}{ms0 os ms:Sl}{s:Sto}{c:vY}{Q:RQ}(g:wV ro)(h:wJ tag I W T Tt Th ms0 s)(i:vE b s)(hb:b<=33554432)(hc:aec tag I 24 28 os ms c)(hsm:agt c)
  (hQ:∀ rs ds ns es tag' I',StepS CWi ro tag I tag' I'->wJ tag' I' W T Tt Th ms0 (aaw s c).1->aal tag' I' rs ds ns es (aaw s c).2->adr Q (aaw s c).2 rs ds ns es I'):
  uU B ro (some ⟨W,0,none⟩) c.kind (S c.home) c.session c.req c.nonce c.lease c.beats c.ack os (S c.path) c.watch c.epoch ms I Q:=by
 refine agp fun hs=>?_
 unfold aai
 refine qj (tag:=tag) 40 hs fun X tag1 I1 st1 r1=>?_
 refine qj (tag:=tag1) 41 (st1 []).sep fun R tag2 I2 st2 r2=>?_
 have x2:=r1.keep (st2 [])
 refine⟨_,_,_,_,_,_,_,_,_,_,_,_,_,qz (x2.read (st2 []).sep) rfl,?_⟩
 refine agv (tag:=tag2) fun tag3 I3 st3=>?_
 refine xh (tag:=tag3) 34 (st3 []).sep rfl (by simp[qh]) fun K tag4 I4 st4 r4=>?_
 have k4:∀ R,qe R ro tag I tag4 I4:=fun R=>(st1 R).trans ((st2 R).trans ((st3 R).trans (st4 R)))
 have hs4:=(st4 []).sep
 have x4:=(x2.keep (st3 [])).keep (st4 [])
 have y4:=(r2.keep (st3 [])).keep (st4 [])
 have h4:=h.fresh k4
 have c4:=hc.keepS (qv (C:=[]) k4) (by simp)
 obtain⟨M,bs,tbl4⟩:=h4.tbl
 refine⟨_,rfl,some ⟨Tt,0,none⟩,(h4.own.read hs4).2.2 _ rfl 3 _ rfl,S c.home,c.session,qz (r4.read hs4) rfl,c.req,(x4.read hs4).2.2 _ rfl 3 _ rfl,?_⟩
 refine apL (b0:=b) tbl4 i.tbl fun sl tag5 I5 st5 rb=>?_
 have k5:∀ R,qe R ro tag I tag5 I5:=fun R=>(k4 R).trans (st5 R)
 have hs5:=(st5 []).sep
 have h5:=h4.fresh st5
 have x5:=x4.keep (st5 [])
 have y5:=y4.keep (st5 [])
 have r5:=r4.keep (st5 [])
 have c5:=c4.keepS (qv (C:=[]) st5) (by simp)
 have hbl:=apU (k:=(c.home,c.session)) (req:=c.req) i.tbl
 obtain⟨s1,hs1⟩:∃ s1:Sto,s1={s with hub:=(afd s.hub (c.home,c.session) c.ack).1}:=⟨_,rfl⟩
 have hW:aaw s c=if(kk s.tbl (c.home,c.session) c.req).2.2≠0 then(s,zh (kk s.tbl (c.home,c.session) c.req).2.2)
   else if(kk s.tbl (c.home,c.session) c.req).2.1=true then(s,{(aff (kk s.tbl (c.home,c.session) c.req).1).getD Rep.zero with events:=ab5 s.hub (c.home,c.session)})
   else if c.kind=3 then(agh {s1 with tbl:=(aaq s1.tbl (c.home,c.session)).1} (c.home,c.session),Rep.zero)
   else({(doS s1 c).1 with tbl:=(adj (doS s1 c).1.tbl (c.home,c.session) c.req ((aar (doS s1 c).2).getD [])).1},{(doS s1 c).2 with events:=ab5 (doS s1 c).1.hub (c.home,c.session)}):=by subst hs1;rfl
 rw[hW]at hQ
 by_cases e1:(kk s.tbl (c.home,c.session) c.req).2.2=0
 rotate_left
 .rw[if_pos e1]
  rw[if_pos e1]at hQ
  refine abm (tag:=tag5) fun tag6 I6 st6=>?_
  refine pg (Q:=Q) (zh (kk s.tbl (c.home,c.session) c.req).2.2) nS nS nS nS (y5.keep (st6 [])) rfl (st6 []).sep fun I7 st7=>?_
  exact hQ nS nS nS nS tag6 I7 ((qv k5).trans ((qv st6).trans (st7.s (by simp)))) ((h5.fresh st6).keepS (st7.s (C:=[41]) (by simp))) (aal.fault _)
 rw[if_neg (by simpa using e1)]
 rw[if_neg (by simpa using e1)]at hQ
 by_cases e2:(kk s.tbl (c.home,c.session) c.req).2.1=true
 .rw[if_pos e2]
  rw[if_pos e2]at hQ
  have fin:∀ (x:Rep) (rs ds ns es:Sl) tag6 I6,StepS [0,2,3,31,50,51,52] ro tag5 I5 tag6 I6->aiF tag6 I6 50 rs ds ns es x->x=(aff (kk s.tbl (c.home,c.session) c.req).1).getD Rep.zero->
    nw ro I6 (.cells #[.int .i64 0,.int .i64 0,Sl.v nS,.int .i64 0,Sl.v nS,.int .i64 0,.int .i64 0,.int .i64 0,.int .i64 0,Sl.v nS,Sl.v nS,.int .i64 0] 30) fun x9_17 I=>
    stN ⟨x9_17,0,none⟩ (fun I=>
     ∃p39_18:Addr,(some ⟨W,0,none⟩:Option Addr)=some p39_18/\
     ∃(x41_19:Option Addr),qa ro I (p39_18.add 4)=some (.pointer x41_19)/\
     ∃(x42_20a:ByteArray) (x42_20b:Int),SL.qg ro I ⟨K,0,none⟩ 0 [.string x42_20a,.int .i64 x42_20b]/\
     xT B ro x41_19 x42_20a x42_20b I fun x43_21 I=>
     stN ((⟨x9_17,0,none⟩:Addr).add 10) (akZ ro x9_17 (ajA ro R Q)) [Sl.v x43_21] 0 I) (acL x rs ds ns es) 0 I:=fun x rs ds ns es tag6 I6 st6 at6 ex=>by
   refine xh (tag:=tag6) 8 st6.sep rfl (aeR x rs ds ns es) fun Y tag7 I7 st7 y7=>?_
   have k57:StepS [0,2,3,31,50,51,52] ro tag5 I5 tag7 I7:=st6.trans (qv st7)
   have hs7:=k57.sep
   have h7:=h5.keepS k57
   obtain⟨Mh,bh,hub7⟩:=h7.hub
   refine⟨_,rfl,some ⟨Th,0,none⟩,(h7.own.read hs7).2.2 _ rfl 4 _ rfl,S c.home,c.session,qz ((r5.keepS k57).read hs7) rfl,?_⟩
   refine alw (k:=c.key) (b0:=b) 9 hub7 i.hub fun es' tag8 I8 st8 ev8=>?_
   have y8:=y7.keep (st8 [])
   refine Row.stAt [Sl.v es'] 10 y8 (st8 []).sep (by simp) (by simp[qh,Sl.v]) fun I9 st9 y9=>?_
   have y9':Row tag8 I9 8 30 ⟨some ⟨Y,0,none⟩,12,12⟩ (acL {x with events:=ab5 s.hub c.key} rs ds ns es'):=y9
   refine⟨_,_,_,_,_,_,_,_,_,_,_,_,qz (y9'.read st9.sep) rfl,?_⟩
   have k59:StepS [0,2,3,8,31,50,51,52] ro tag5 I5 tag8 I9:=(k57.mono (by decide)).trans ((qv st8).trans (st9.s (by simp)))
   refine pg (Q:=Q) {x with events:=ab5 s.hub c.key} rs ds ns es' (y5.keepS k59) rfl st9.sep fun I10 st10=>?_
   have ka:StepS [0,2,3,8,31,41,50,51,52] ro tag5 I5 tag8 I10:=(k59.mono (by decide)).trans (st10.s (by simp))
   subst ex
   refine hQ rs ds ns es' tag8 I10 ((qv k5).trans (ka.mono (by decide))) (h5.keepS ka) ?_
   have at10:=((at6.keepS (qv (C:=[]) fun R=>(st7 R).trans (st8 R)) (by simp) (by simp) (by simp) (by simp)).keepS (st9.s (C:=[8]) (by simp))).keepS (st10.s (C:=[41]) (by simp))
   exact⟨⟨50,by simp,at10.res⟩,at10.data,⟨51,by simp,at10.names⟩,⟨9,by simp,(qq.keep ev8 st9).keep st10⟩⟩
  refine anf (tag:=tag5) (q:=50) (by decide) (by decide) (by decide) (rb.read hs5) (by omega) (fun hn tag6 I6 st6=>?_) fun x hx rs ds ns es tag6 I6 st6 at6=>?_
  .exact fin Rep.zero nS nS nS nS tag6 I6 st6 ⟨qq.nil _ _ _,Row.nil _ _,Row.nil _ _,qq.nil _ _ _⟩ (by rw[hn];try rfl)
  .exact fin x rs ds ns es tag6 I6 st6 at6 (by rw[hx];try rfl)
 rw[if_neg e2]
 rw[if_neg e2]at hQ
 obtain⟨Mh,bh,hub5⟩:=h5.hub
 refine⟨_,rfl,some ⟨Th,0,none⟩,(h5.own.read hs5).2.2 _ rfl 4 _ rfl,S c.home,c.session,qz (r5.read hs5) rfl,c.ack,(x5.read hs5).2.2 _ rfl 7 _ rfl,?_⟩
 refine asu (k:=c.key) (b0:=b) hub5 i.hub fun tag6 I6 st6 hub6=>?_
 have hs6:=st6.sep
 have h6:wJ tag6 I6 W T Tt Th ms0 s1:=by rw[hs1];exact h5.hubSet st6 (by decide) ⟨Mh,bh,hub6⟩
 have x6:=x5.keepS st6
 have y6:=y5.keepS st6
 have r6:=r5.keepS st6
 have c6:=c5.keepS st6
 have k6:StepS CWi ro tag I tag6 I6:=(qv k5).trans (st6.mono (by decide))
 have i1:vE b s1:=by rw[hs1];exact⟨i.tree,i.tbl,agk i.hub,i.ep,i.mem⟩
 refine⟨c.kind,(x6.read hs6).2.2 _ rfl 0 _ rfl,?_⟩
 by_cases e3:c.kind=3
 .rw[if_pos e3]
  rw[if_pos e3]at hQ
  obtain⟨M6,bs6,tbl6⟩:=h6.tbl
  refine⟨_,rfl,some ⟨Tt,0,none⟩,(h6.own.read hs6).2.2 _ rfl 3 _ rfl,S c.home,c.session,qz (r6.read hs6) rfl,?_⟩
  refine apN tbl6 fun tag7 I7 st7 tbl7=>?_
  have h7:wJ tag7 I7 W T Tt Th ms0 {s1 with tbl:=(aaq s1.tbl (c.home,c.session)).1}:=⟨h6.own.keepS st7,h6.mem.keepS st7,h6.tree.keepS st7,⟨M6,bs6,tbl7⟩,h6.hub.keepS st7⟩
  refine⟨S c.home,c.session,qz ((r6.keepS st7).read st7.sep) rfl,?_⟩
  have i7:vE (b+1) ({s1 with tbl:=(aaq s1.tbl (c.home,c.session)).1}:Sto):=⟨i1.tree.mono (by omega),(ahb i1.tbl).mono (by omega),i1.hub.mono (by omega),by have:=i1.ep;simp only;omega,i1.mem⟩
  refine amS (k:=(c.home,c.session)) g h7 i7 (by omega) fun tag8 I8 st8 h8=>?_
  refine pg (Q:=Q) Rep.zero nS nS nS nS ((y6.keepS st7).keepS st8) rfl st8.sep fun I9 st9=>?_
  exact hQ nS nS nS nS tag8 I9 (k6.trans ((st7.mono (by decide)).trans ((st8.mono (by decide)).trans (st9.s (by simp))))) (h8.keepS (st9.s (C:=[41]) (by simp))) (aal.zero _ rfl rfl rfl rfl)
 .rw[if_neg e3]
  rw[if_neg e3]at hQ
  refine⟨_,_,_,_,_,_,_,_,_,_,_,_,_,qz (x6.read hs6) rfl,?_⟩
  refine atc (b:=b) g h6 i1 hb c6 hsm fun rs ds ns tag7 I7 st7 h7 rr7 rd7 rn7=>?_
  have i7:vE (b+1) (doS s1 c).1:=akR i1 hb
  obtain⟨ev7,bad7⟩:=arn (c:=c) i1 hb
  have tiny:=amD (c:=c) i1 hb
  have k7:StepS CWi ro tag I tag7 I7:=k6.trans (st7.mono (by decide))
  have x7:=x6.keepS st7
  have y7:=y6.keepS st7
  have r7:=r6.keepS st7
  generalize hd:doS s1 c=d at h7 rr7 rd7 rn7 i7 ev7 bad7 tiny hQ
  obtain⟨s2,x⟩:=d
  have bad7: -1<=x.bad:=bad7
  have tiny:afx x:=tiny
  refine xh (tag:=tag7) 8 st7.sep rfl (aeR x rs ds ns nS) fun Y tag8 I8 st8 y8=>?_
  have hs8:=(st8 []).sep
  have h8:=h7.fresh st8
  refine⟨_,_,_,_,_,_,_,_,_,_,_,_,qz (y8.read hs8) rfl,?_⟩
  have rr8:=qq.keep rr7 (st8 [])
  have rd8:=rd7.keep (st8 [])
  have rn8:=rn7.keep (st8 [])
  have repd:∀ tag' I',StepS CR ro tag8 I8 tag' I'->ata ro I' rs ds ns nS x:=fun tag' I' st=>by
   refine⟨(qq.keepS rr8 st).read st.sep,(rd8.keepS st).read st.sep,(rn8.keepS st).read st.sep,?_⟩
   rw[ev7];exact⟨rfl,fun _=>rfl,(fun x h=>by cases h),fun p hp=>by cases hp⟩
  have fin:∀ (sb:Sl) (er:Int) tag9 I9,StepS CR ro tag8 I8 tag9 I9->Row tag9 I9 6 5 sb (((aar x).getD []).map vU)->
    ∃p76_42:Addr,(some ⟨W,0,none⟩:Option Addr)=some p76_42/\
    ∃(x78_43:Option Addr),qa ro I9 (p76_42.add 3)=some (.pointer x78_43)/\
    ∃(x79_44a:ByteArray) (x79_44b:Int),SL.qg ro I9 ⟨K,0,none⟩ 0 [.string x79_44a,.int .i64 x79_44b]/\
    ∃(x81_45:Int),qa ro I9 ((⟨X,0,none⟩:Addr).add 3)=some (.int .i64 x81_45)/\
    pj B ro x78_43 x79_44a x79_44b x81_45 sb I9 fun x83_46 I=>
    ∃p85_47:Addr,(some ⟨W,0,none⟩:Option Addr)=some p85_47/\
    ∃(x87_48:Option Addr),qa ro I (p85_47.add 4)=some (.pointer x87_48)/\
    ∃(x88_49a:ByteArray) (x88_49b:Int),SL.qg ro I ⟨K,0,none⟩ 0 [.string x88_49a,.int .i64 x88_49b]/\
    xT B ro x87_48 x88_49a x88_49b I fun x89_50 I=>
    stN ((⟨Y,0,none⟩:Addr).add 10) (akZ ro Y (ajA ro R Q)) [Sl.v x89_50] 0 I:=fun sb er tag9 I9 st9 rb9=>by
   have hs9:=st9.sep
   have h9:=h8.keepS st9
   have K9:=(r7.keep (st8 [])).keepS st9
   have X9:=(x7.keep (st8 [])).keepS st9
   obtain⟨M9,bs9,tbl9⟩:=h9.tbl
   refine⟨_,rfl,some ⟨Tt,0,none⟩,(h9.own.read hs9).2.2 _ rfl 3 _ rfl,S c.home,c.session,qz (K9.read hs9) rfl,c.req,(X9.read hs9).2.2 _ rfl 3 _ rfl,?_⟩
   refine asq (d:=(aar x).getD []) tbl9 (rb9.read hs9) (by have:=anM tiny;omega) fun tag10 I10 st10 tbl10=>?_
   have hs10:=st10.sep
   have h10:wJ tag10 I10 W T Tt Th ms0 {s2 with tbl:=(adj s2.tbl (c.home,c.session) c.req ((aar x).getD [])).1}:=⟨h9.own.keepS st10,h9.mem.keepS st10,h9.tree.keepS st10,⟨M9,bs9,tbl10⟩,h9.hub.keepS st10⟩
   obtain⟨Mh,bh,hub10⟩:=h10.hub
   refine⟨_,rfl,some ⟨Th,0,none⟩,(h10.own.read hs10).2.2 _ rfl 4 _ rfl,S c.home,c.session,qz ((K9.keepS st10).read hs10) rfl,?_⟩
   refine alw (k:=c.key) (b0:=b+1) 9 hub10 i7.hub fun es' tag11 I11 st11 ev11=>?_
   have k811:StepS [0,1,2,30,58] ro tag8 I8 tag11 I11:=(st9.mono (by decide)).trans ((st10.mono (by decide)).trans (qv st11))
   have y11:=y8.keepS k811
   refine Row.stAt [Sl.v es'] 10 y11 k811.sep (by simp) (by simp[qh,Sl.v]) fun I12 st12 y12=>?_
   have y12':Row tag11 I12 8 30 ⟨some ⟨Y,0,none⟩,12,12⟩ (acL {x with events:=ab5 s2.hub c.key} rs ds ns es'):=y12
   refine⟨_,_,_,_,_,_,_,_,_,_,_,_,qz (y12'.read st12.sep) rfl,?_⟩
   have k812:StepS [0,1,2,8,30,58] ro tag8 I8 tag11 I12:=(k811.mono (by decide)).trans (st12.s (by simp))
   refine pg (Q:=Q) {x with events:=ab5 s2.hub c.key} rs ds ns es' ((y7.keep (st8 [])).keepS k812) rfl st12.sep fun I13 st13=>?_
   have k813:StepS [0,1,2,8,30,41,58] ro tag8 I8 tag11 I13:=(k812.mono (by decide)).trans (st13.s (by simp))
   refine hQ rs ds ns es' tag11 I13 (k7.trans ((qv st8).trans (k813.mono (by decide)))) ?_ ?_
   .exact(h10.fresh st11).keepS ((st12.s (C:=[8,41]) (by simp)).trans (st13.s (by simp)))
   .exact⟨⟨14,by simp,qq.keepS rr8 k813⟩,rd8.keepS k813,⟨42,by simp,rn8.keepS k813⟩,⟨9,by simp,(qq.keep ev11 st12).keep st13⟩⟩
  refine ane (tag:=tag8) repd tiny.sm20 (by omega) (fun hn tag9 I9 st9=>?_) fun bb hbb sb tag9 I9 st9 rb9=>?_
  .exact fin nS 170 tag9 I9 st9 (by rw[hn];exact Row.nil _ _)
  .exact fin sb 0 tag9 I9 st9 (by rw[hbb];exact rb9)
theorem apV{t:Tbl}{k:Str×Int}{n:Int}(e:¬ (kw t k n).2=true):(kw t k n).1=t:=by
 unfold kw at e⊢
 split
 .rename_i s hs
  rw[hs]at e
  simp only at e
  split
  .rename_i c;rw[if_pos c]at e;exact absurd rfl e
  .rfl
 .rfl
abbrev CAp:List Nat:=[0,1,2,3,4,5,8,10,12,13,14,15,17,18,19,20,21,25,26,27,30,31,39,41,42,45,47,49,50,51,52,53,54,55,56,57,58,59,60,61,62]
theorem alz{b W:Nat}{os ms:Sl}{s:Sto}{c:vY}{Q:RQ}(g:wV ro)(h:yz tag I W s)(i:vE b s)(hb:b<=33554432)(hc:aec tag I 24 28 os ms c)(hsm:agt c)(hml:c.members.length<=1048576)
  (hQ:∀ rs ds ns es tag' I',StepS CAp ro tag I tag' I'->yz tag' I' W (vH s c).1->aal tag' I' rs ds ns es (vH s c).2->adr Q (vH s c).2 rs ds ns es I'):
  kX B ro (some ⟨W,0,none⟩) c.kind (S c.home) c.session c.req c.nonce c.lease c.beats c.ack os (S c.path) c.watch c.epoch ms I Q:=by
 obtain⟨T,Tt,Th,ms0,h⟩:=h.in
 refine ado fun hs=>?_
 unfold py
 refine qj (tag:=tag) 38 hs fun X tag1 I1 st1 r1=>?_
 refine qj (tag:=tag1) 39 (st1 []).sep fun R tag2 I2 st2 y2=>?_
 have k2:∀ R,qe R ro tag I tag2 I2:=fun R=>(st1 R).trans (st2 R)
 have hs2:=(st2 []).sep
 have x2:=r1.keep (st2 [])
 have h2:=h.fresh k2
 have c2:=hc.keepS (qv (C:=[]) k2) (by simp)
 unfold vH at hQ
 refine⟨c.kind,(x2.read hs2).2.2 _ rfl 0 _ rfl,?_⟩
 by_cases e1:c.kind=1
 .rw[if_pos e1]at hQ⊢
  refine⟨_,_,_,_,_,_,_,_,_,_,_,_,_,qz (x2.read hs2) rfl,?_⟩
  refine arm (b:=b) g h2 i hb hsm fun tag3 I3 st3 h3=>?_
  refine pg (Q:=Q) (abx s c).2 nS nS nS nS (y2.keepS st3) rfl st3.sep fun I4 st4=>?_
  refine hQ nS nS nS nS tag3 I4 ((qv k2).trans ((st3.mono (by decide)).trans (st4.s (by simp)))) (h3.keepS (st4.s (C:=[39]) (by simp))).at ?_
  unfold abx
  split<;>exact aal.zero _ rfl rfl rfl rfl
 rw[if_neg e1]at hQ⊢
 by_cases e4:c.kind=4
 .rw[if_pos e4]at hQ⊢
  refine jF tag2 [54,38] ?_
  have hsA:SL.Sep (join ro (SL.inR tag2 [54,38] I2)) (SL.zJ tag2 [54,38] I2):=hs2.lentR
  obtain⟨M,bs,tbl⟩:=h2.tbl
  have tA:=tbl.outR (L:=[54,38]) (by decide)
  refine⟨_,rfl,some ⟨Tt,0,none⟩,h2.own.lendR hs2 (by simp) rfl (i:=3) rfl,c.beats,x2.lendR hs2 (by simp) rfl (i:=6) rfl,_,_,_,_,_,_,_,_,_,_,_,_,_,Row.lendAll x2 hs2 (by simp),?_⟩
  refine agv (tag:=tag2) fun tag3 I3 st3=>?_
  refine aoC (tA.fresh st3) fun tag4 I4 st4 tbl4=>?_
  intro hd
  have kA:StepS [57] ro tag2 I2 _ _:=((qv st3).trans st4).backR hs2 hd
  have h5:wJ (tagB tag2 tag4 [54,38] I2) (join (SL.inR tag2 [54,38] I2) I4) W T Tt Th ms0 {s with tbl:=(kw s.tbl c.key c.beats).1}:=⟨h2.own.againR (by simp),h2.mem.keepS kA,h2.tree.keepS kA,⟨M,bs,tbl4.backR hd⟩,h2.hub.keepS kA⟩
  have x5:=x2.againR (L:=[54,38]) (tag1:=tag4) (τ:=I4) (by simp)
  have y5:=y2.keepS kA
  generalize (join (SL.inR tag2 [54,38] I2) I4)=I5 at kA h5 x5 y5⊢
  generalize (tagB tag2 tag4 [54,38] I2)=tag5 at kA h5 x5 y5
  by_cases e5:(kw s.tbl c.key c.beats).2=true
  .rw[if_pos e5]at hQ
   rw[if_neg (by rw[show(kw s.tbl (c.home,c.session) c.beats).2=true from e5];simp)]
   refine⟨_,_,_,_,_,_,_,_,_,_,_,_,_,qz (x5.read kA.sep) rfl,?_⟩
   refine agv (tag:=tag5) fun tag6 I6 st6=>?_
   have i5:vE (b+1) ({s with tbl:=(kw s.tbl c.key c.beats).1}:Sto):=⟨i.tree.mono (by omega),(afW i.tbl).mono (by omega),i.hub.mono (by omega),by have:=i.ep;simp only;omega,i.mem⟩
   refine amS (k:=c.key) g (h5.fresh st6) i5 (by omega) fun tag7 I7 st7 h7=>?_
   refine pg (Q:=Q) Rep.zero nS nS nS nS ((y5.keep (st6 [])).keepS st7) rfl st7.sep fun I8 st8=>?_
   exact hQ nS nS nS nS tag7 I8 ((qv k2).trans ((kA.mono (by decide)).trans ((qv st6).trans ((st7.mono (by decide)).trans (st8.s (by simp)))))) (h7.keepS (st8.s (C:=[39]) (by simp))).at (aal.zero _ rfl rfl rfl rfl)
  .rw[if_neg e5]at hQ
   rw[if_pos (show¬(kw s.tbl (c.home,c.session) c.beats).2=true from e5)]
   refine abm (tag:=tag5) fun tag6 I6 st6=>?_
   refine pg (Q:=Q) (zh 150) nS nS nS nS (y5.keep (st6 [])) rfl (st6 []).sep fun I7 st7=>?_
   have h5':wJ tag5 I5 W T Tt Th ms0 s:=by
    have:=h5
    rw[apV e5]at this
    exact this
   exact hQ nS nS nS nS tag6 I7 ((qv k2).trans ((kA.mono (by decide)).trans ((qv st6).trans (st7.s (by simp))))) ((h5'.fresh st6).keepS (st7.s (C:=[39]) (by simp))).at (aal.fault _)
 rw[if_neg e4]at hQ⊢
 by_cases e8:c.kind=8
 .rw[if_pos e8]at hQ⊢
  refine⟨_,_,_,_,_,_,_,_,_,_,_,_,_,qz (x2.read hs2) rfl,?_⟩
  refine aoI (b:=b) h2 i (by omega) c2.mem hml fun ms' tag3 I3 st3 h3=>?_
  refine pg (Q:=Q) (acS s c).2 nS nS nS nS (y2.keepS st3) rfl st3.sep fun I4 st4=>?_
  refine hQ nS nS nS nS tag3 I4 ((qv k2).trans ((st3.mono (by decide)).trans (st4.s (by simp)))) (h3.keepS (st4.s (C:=[39]) (by simp))).at ?_
  unfold acS
  split
  .exact aal.fault _
  .split
   .exact aal.fault _
   .exact aal.zero _ rfl rfl rfl rfl
 rw[if_neg e8]at hQ⊢
 have yes:(2<=c.kind/\c.kind<=7)->∀ d:Bool,d=true->wx B ro (some ⟨W,0,none⟩) X R Q d I2:=fun hk d hd=>by
  rw[if_pos hk]at hQ
  unfold wx
  rw[if_pos hd]
  refine⟨_,_,_,_,_,_,_,_,_,_,_,_,_,qz (x2.read hs2) rfl,?_⟩
  refine aoJ (b:=b) g h2 i hb c2 hsm fun rs ds ns es tag3 I3 st3 h3 d3=>?_
  refine pg (Q:=Q) (aaw s c).2 rs ds ns es (y2.keepS st3) rfl st3.sep fun I4 st4=>?_
  exact hQ rs ds ns es tag3 I4 ((qv k2).trans ((st3.mono (by decide)).trans (st4.s (by simp)))) (h3.keepS (st4.s (C:=[39]) (by simp))).at (d3.keepS (st4.s (C:=[39]) (by simp)))
 have no:¬ (2<=c.kind/\c.kind<=7)->∀ d:Bool,d=false->wx B ro (some ⟨W,0,none⟩) X R Q d I2:=fun hk d hd=>by
  rw[if_neg hk]at hQ
  unfold wx
  rw[if_neg (by simp[hd])]
  refine abm (tag:=tag2) fun tag6 I6 st6=>?_
  refine pg (Q:=Q) (zh 170) nS nS nS nS (y2.keep (st6 [])) rfl (st6 []).sep fun I7 st7=>?_
  exact hQ nS nS nS nS tag6 I7 ((qv k2).trans ((qv st6).trans (st7.s (by simp)))) ((h2.fresh st6).keepS (st7.s (C:=[39]) (by simp))).at (aal.fault _)
 by_cases f2:c.kind=2
 .rw[if_pos f2];exact yes (by omega) _ (by simp[f2])
 rw[if_neg f2]
 by_cases f3:c.kind=3
 .rw[if_pos f3];exact yes (by omega) _ (by simp[f3])
 rw[if_neg f3]
 by_cases f5:c.kind=5
 .rw[if_pos f5];exact yes (by omega) _ (by simp[f5])
 rw[if_neg f5]
 by_cases f6:c.kind=6
 .rw[if_pos f6];exact yes (by omega) _ (by simp[f6])
 rw[if_neg f6]
 by_cases f7:c.kind=7
 .exact yes (by omega) _ (by simp[f7])
 .exact no (by omega) _ (by simp[f7])
abbrev CK:List Nat:=[0,2,3,4,5,8,10,12,13,14,54,55,56,57,58,62]
theorem akm{Q:Bool->AH->Prop}(g:wV ro)(hQ:∀ tag' I',(∀R,qe R ro tag I tag' I')->Q true I'):aca B ro I Q:=by
 refine akV fun hs=>?_
 unfold aeu
 refine qj (tag:=T7) 8 hs fun X tag1 I1 st1 r1=>?_
 refine anh (tag:=tag1) (r1.read (st1 []).sep) fun W T Tt M ms Th tag2 I2 st2 h2=>?_
 rw[if_neg (by simp)]
 refine apK g h2 fun tag3 I3 st3=>?_
 have o3:=h2.own.keepS st3
 have m3:=h2.mem.keepS st3
 refine qj (tag:=tag3) 13 st3.sep fun Z tag4 I4 st4 r4=>?_
 refine r4.stPre ajx 0 _ I4 (st4 []).sep (by simp) aq8 fun I5 st5 r5=>?_
 have y5:Row tag4 I5 13 _ ⟨some ⟨Z,0,none⟩,12,12⟩ ajx:=r5
 have k5:qe [13] ro tag3 I3 tag4 I5:=(st4 [13]).trans st5
 have o5:=o3.keep k5
 have m5:=m3.keep k5
 have hs5:=st5.sep
 refine⟨0,(y5.read hs5).2.2 _ rfl 0 _ rfl,?_⟩
 rw[if_pos rfl]
 refine⟨1,(y5.read hs5).2.2 _ rfl 1 _ rfl,?_⟩
 unfold uJ
 rw[if_pos (by decide)]
 refine⟨_,rfl,?_⟩
 refine agn fun _=>?_
 unfold aag
 refine⟨_,rfl,0,(o5.read hs5).2.2 _ rfl 0 _ rfl,?_⟩
 show yO B ro (some ⟨W,0,none⟩) Q (decide ((0:Int)=0)) I5
 unfold yO
 rw[if_pos (by decide)]
 refine⟨_,rfl,?_⟩
 refine afm fun _=>?_
 unfold uk
 refine⟨_,rfl,ms,(o5.read hs5).2.2 _ rfl 1 _ rfl,?_⟩
 refine afz (tag:=tag4) 14 (m5.read hs5) hs5 (by decide) (by simp[qh]) fun s tag6 I6 st6 r6=>?_
 unfold pY
 have hl:s.len=3:=(r6.read (st6 []).sep).1
 show Q (decide ((s.len:Int)=3)) I6
 rw[hl]
 have st:StepS CK ro T7 I tag6 I6:=((st1 []).s (by simp)).trans ((st2.mono (by decide)).trans ((st3.mono (by decide)).trans ((k5.s (by simp)).trans ((st6 []).s (by simp)))))
 exact hQ _ I6 (st.mix (by decide) tag)