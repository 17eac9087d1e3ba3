import Derived.JoinedCond
import Derived.Test.YtomdigihapdhnaaGreatDoorRows
import Derived.Test.YtomdigihapdhnaaGreatDoorXL
set_option linter.all false
set_option maxRecDepth 99999
set_option maxHeartbeats 0
open Go.IntKind(i64)
open Go.Proofs.Tryz
namespace Go.Proofs.YtomdigihapdhnaaGreatDoor
namespace Zt
open Go SL G Pa Wi
variable{B:World}{ro I I':AH}{tag tag':Nat->Nat}
abbrev CGy:List Nat:=[0,2,3,4,10]
structure aft(tag:Nat->Nat)(I:AH)(os ms:Sl)(c:wh):Prop where
 ops:qY (fun _=>none) tag I 9 os c.ops
 mem:Row tag I 10 3 ms (c.members.map vI)
theorem qY.mixN{tag1:Nat->Nat}{I1:AH}{C:List Nat}{q:Nat}{s:Sl}{ops:List MOp}(h:qY (fun _=>none) tag1 I1 q s ops)(st:qd C ro T7 I tag1 I1)(hq:q≠7)(tag:Nat->Nat):qY (fun _=>none) (vV I tag tag1) I1 q s ops:=by
 obtain⟨ds,h1,h2,h3⟩:=h
 refine⟨ds,h1,SL.wj.mix h2 st hq tag,fun i o d ho hd'=>?_⟩
 rcases h3 i o d ho hd' with h | ⟨e1,e2 | ⟨p,ob,e2,e3,e4,e5⟩⟩
 .exact .inl h
 .exact .inr ⟨e1,.inl e2⟩
 .refine .inr ⟨e1,.inr ⟨p,ob,e2,?_,e4,e5⟩⟩
  unfold vV
  cases e:I p.block with
  | none=>simpa using e3
  | some o=>exact absurd (e3.symm.trans (st.old7 e)) (by decide)
theorem ag6{a0:Sl}{b:Str}{Q:Int->ByteArray->Int->Int->Int->Int->Int->Int->Sl->ByteArray->Bool->Int->Sl->Bool->AH->Prop}(h:SL.qy ro (fun _=>none) a0 (b.map vU))(hcap:a0.len<=a0.cap)(hl:b.length<=140737488355328)
  (hQ:∀ c os ms tag' I',c=(wJ b).getD wh.zero->(∀R,qf R ro tag I tag' I')->aft tag' I' os ms c->Q c.kind (S c.home) c.session c.req c.nonce c.lease c.beats c.ack os (S c.path) c.watch c.epoch ms (wJ b).isSome I'):uM B ro a0 I Q:=by
 refine aeC fun hs=>?_
 unfold aaq
 obtain⟨A1,e1⟩:∃ A,qo ⟨b,0⟩=A:=⟨_,rfl⟩
 obtain⟨A2,e2⟩:∃ A,qO A1.2=A:=⟨_,rfl⟩
 obtain⟨A3,e3⟩:∃ A,qo A2.2=A:=⟨_,rfl⟩
 obtain⟨A4,e4⟩:∃ A,qo A3.2=A:=⟨_,rfl⟩
 obtain⟨A5,e5⟩:∃ A,qo A4.2=A:=⟨_,rfl⟩
 obtain⟨A6,e6⟩:∃ A,qo A5.2=A:=⟨_,rfl⟩
 obtain⟨A7,e7⟩:∃ A,qo A6.2=A:=⟨_,rfl⟩
 obtain⟨A8,e8⟩:∃ A,qo A7.2=A:=⟨_,rfl⟩
 obtain⟨A9,e9⟩:∃ A,qO A8.2=A:=⟨_,rfl⟩
 obtain⟨B0,f0⟩:∃ A,qO A9.2=A:=⟨_,rfl⟩
 obtain⟨B1,f1⟩:∃ A,qo B0.2=A:=⟨_,rfl⟩
 obtain⟨B2,f2⟩:∃ A,qo B1.2=A:=⟨_,rfl⟩
 obtain⟨B3,f3⟩:∃ A,qo B2.2=A:=⟨_,rfl⟩
 obtain⟨B4,f4⟩:∃ A,vo (min B3.1 8) B3.2=A:=⟨_,rfl⟩
 have hR:wi b=⟨⟨A1.1,A2.1,A3.1,A4.1,A5.1,A6.1,A7.1,A8.1,[],B0.1,decide (B1.1=1),B2.1,B4.1⟩,A9.1,B1.1,B3.1,B4.2⟩:=by
  unfold wi
  simp only[e1,e2,e3,e4,e5,e6,e7,e8,e9,f0,f1,f2,f3,f4]
 have hln:a0.len=b.length:=by rw[h.1,List.length_map]
 refine ql (tag:=T7) 2 hs fun Y tag1 I1 st1 y1=>?_
 refine ql (tag:=tag1) 4 (st1 []).sep fun A tag2 I2 st2 rA2=>?_
 have rd2:ji tag2 I2 4 A a0 b ⟨b,0⟩:=⟨0,Nat.zero_le _,rfl,rA2⟩
 refine zV rd2 h hl fun I3 st3 rd3=>?_
 rw[e1]at rd3⊢
 refine pN (tag:=tag2) 3 st3.sep rfl (by simp[qg,Sl.v]) fun X tag4 I4 st4 x4=>?_
 have k4:qd CGy ro T7 I tag4 I4:=((st1 []).s (by simp)).trans (((st2 []).s (by simp)).trans ((st3.s (by simp)).trans ((st4 []).s (by simp))))
 have y4:=((y1.keep (st2 [])).keep st3 (by decide)).keep (st4 [])
 refine aaV (by decide) (rd3.keep (st4 [])) h hcap hl fun d1 tag5 I5 st5 rd5 b5=>?_
 rw[e2]at rd5 b5
 refine abm (b5.read st5.sep) ?_
 refine⟨_,rfl,?_⟩
 refine(x4.keep st5 (by decide)).stAt [.string (S A2.1)] 1 st5.sep (by simp) (by simp[qg]) fun I6 st6 x6=>?_
 refine zV (rd5.keep st6 (by decide)) h hl fun I7 st7 rd7=>?_
 rw[e3]at rd7⊢
 refine(x6.keep st7 (by decide)).stAt [.int .i64 (A3.1:Nat)] 2 st7.sep (by simp) (by simp[qg]) fun I8 st8 x8=>?_
 refine zV (rd7.keep st8 (by decide)) h hl fun I9 st9 rd9=>?_
 rw[e4]at rd9⊢
 refine(x8.keep st9 (by decide)).stAt [.int .i64 (A4.1:Nat)] 3 st9.sep (by simp) (by simp[qg]) fun Ia sta xa=>?_
 refine zV (rd9.keep sta (by decide)) h hl fun Ib stb rdb=>?_
 rw[e5]at rdb⊢
 refine(xa.keep stb (by decide)).stAt [.int .i64 (A5.1:Nat)] 4 stb.sep (by simp) (by simp[qg]) fun Ic stc xc=>?_
 refine zV (rdb.keep stc (by decide)) h hl fun Id std rdd=>?_
 rw[e6]at rdd⊢
 refine(xc.keep std (by decide)).stAt [.int .i64 (A6.1:Nat)] 5 std.sep (by simp) (by simp[qg]) fun Ie ste xe=>?_
 refine zV (rdd.keep ste (by decide)) h hl fun If stf rdf=>?_
 rw[e7]at rdf⊢
 refine(xe.keep stf (by decide)).stAt [.int .i64 (A7.1:Nat)] 6 stf.sep (by simp) (by simp[qg]) fun Ig stg xg=>?_
 refine zV (rdf.keep stg (by decide)) h hl fun Ih sth rdh=>?_
 rw[e8]at rdh⊢
 refine(xg.keep sth (by decide)).stAt [.int .i64 (A8.1:Nat)] 7 sth.sep (by simp) (by simp[qg]) fun Ii sti xi=>?_
 have kI:qd CGy ro T7 I tag5 Ii:=k4.trans ((st5.s (by simp)).trans ((st6.s (by simp)).trans ((st7.s (by simp)).trans ((st8.s (by simp)).trans ((st9.s (by simp)).trans ((sta.s (by simp)).trans ((stb.s (by simp)).trans ((stc.s (by simp)).trans ((std.s (by simp)).trans ((ste.s (by simp)).trans ((stf.s (by simp)).trans ((stg.s (by simp)).trans ((sth.s (by simp)).trans (sti.s (by simp)))))))))))))))
 have k4I:qd [3,4] ro tag4 I4 tag5 Ii:=(st5.s (by simp)).trans ((st6.s (by simp)).trans ((st7.s (by simp)).trans ((st8.s (by simp)).trans ((st9.s (by simp)).trans ((sta.s (by simp)).trans ((stb.s (by simp)).trans ((stc.s (by simp)).trans ((std.s (by simp)).trans ((ste.s (by simp)).trans ((stf.s (by simp)).trans ((stg.s (by simp)).trans ((sth.s (by simp)).trans (sti.s (by simp))))))))))))))
 have yI:=y4.keepS k4I
 have xI:Row tag5 Ii 3 88 ⟨some ⟨X,0,none⟩,13,13⟩ [vI A1.1,Pa.vS A2.1,vI A3.1,vI A4.1,vI A5.1,vI A6.1,vI A7.1,vI A8.1,Sl.v nS,.string ByteArray.empty,.bool false,vI 0,Sl.v nS]:=xi
 have rdI:=rdh.keep sti (by decide)
 clear k4 k4I st5 st6 st7 st8 st9 sta stb stc std ste stf stg sth x4 x6 x8 xa xc xe xg xi rd3 rd5 rd7 rd9 rdb rdd rdf rdh y1 y4 rA2 rd2
 refine aaV (by decide) rdI h hcap hl fun s41 tag6 I6 st6 rd6 b6=>?_
 rw[e9]at rd6 b6
 refine aaV (by decide) rd6 h hcap hl fun s43 tag7 I7 st7 rd7 b7=>?_
 rw[f0]at rd7 b7
 refine abm (b7.read st7.sep) ?_
 refine⟨_,rfl,?_⟩
 refine((xI.keep st6 (by decide)).keep st7 (by decide)).stAt [.string (S B0.1)] 9 st7.sep (by simp) (by simp[qg]) fun I8 st8 x8=>?_
 refine zV (rd7.keep st8 (by decide)) h hl fun I9 st9 rd9=>?_
 rw[f1]at rd9⊢
 refine zV rd9 h hl fun Ia sta rda=>?_
 rw[f2]at rda⊢
 refine((x8.keep st9 (by decide)).keep sta (by decide)).stAt [.int .i64 (B2.1:Nat)] 11 sta.sep (by simp) (by simp[qg]) fun Ib stb xb=>?_
 refine zV (rda.keep stb (by decide)) h hl fun Ic stc rdc=>?_
 rw[f3]at rdc⊢
 have k6:qd [3,4] ro tag6 I6 tag7 Ic:=(st7.s (by simp)).trans ((st8.s (by simp)).trans ((st9.s (by simp)).trans ((sta.s (by simp)).trans ((stb.s (by simp)).trans (stc.s (by simp))))))
 have kC:qd CGy ro T7 I tag7 Ic:=kI.trans ((st6.s (by simp)).trans (k6.mono (by simp)))
 have bC:=b6.keepS k6
 have yC:=(yI.keep st6 (by decide)).keepS k6
 have xC:Row tag7 Ic 3 88 ⟨some ⟨X,0,none⟩,13,13⟩ [vI A1.1,Pa.vS A2.1,vI A3.1,vI A4.1,vI A5.1,vI A6.1,vI A7.1,vI A8.1,Sl.v nS,Pa.vS B0.1,.bool false,vI B2.1,Sl.v nS]:=xb.keep stc (by decide)
 clear k6 st6 st7 st8 st9 sta stb stc x8 xb xI rdI rd6 rd7 rd9 rda b6 yI
 suffices∀k j (s:Sl) (l:List Int) (z:Rd) tag2 I2,j+k=min B3.1 8->l.length=j->(l++(vo k z).1,(vo k z).2)=B4->qd CGy ro T7 I tag2 I2->Row tag2 I2 2 88 ⟨some ⟨Y,0,none⟩,13,13⟩ aih->Row tag2 I2 3 88 ⟨some ⟨X,0,none⟩,13,13⟩ [vI A1.1,Pa.vS A2.1,vI A3.1,vI A4.1,vI A5.1,vI A6.1,vI A7.1,vI A8.1,Sl.v nS,Pa.vS B0.1,.bool false,vI B2.1,Sl.v s]->Row tag2 I2 6 5 s41 (A9.1.map vU)->Row tag2 I2 10 3 s (l.map vI)->ji tag2 I2 4 A a0 b z->lfpD (xF B ro a0 Y X A s41 (B1.1:Nat) (B3.1:Nat) Q) (j:Int) I2 from
  this _ 0 nS [] B3.2 tag7 Ic (Nat.zero_add _) rfl (by rw[List.nil_append,<-f4]) kC yC xC bC (Row.nil _ _) rdc
 have mn:∀ j:Nat,((j:Int)<(B3.1:Int)/\(j:Int)<8)↔j<min B3.1 8:=fun j=>by omega
 intro k
 induction k with
 | zero=>
  intro j s l z tag2 I2 hj hl2 hg k2 y2 x2 b2 m2 rd2
  refine lfpD.intro ?_
  unfold xF
  rw[if_neg (by rw[mn];omega)]
  have h1:l=B4.1:=by rw[<-hg];simp[vo]
  have h2:z=B4.2:=by rw[<-hg];simp[vo]
  subst h1
  subst h2
  unfold jK
  have hA9:A9.1.length<=140737488355328:=by
   have h3:=congrArg (fun x:RC=>x.p.length) hR
   have h4:=abi A8.2
   rw[e9]at h4
   have r1:=zG ⟨b,0⟩
   have r2:=abi A1.2
   have r3:=zG A2.2
   have r4:=zG A3.2
   have r5:=zG A4.2
   have r6:=zG A5.2
   have r7:=zG A6.2
   have r8:=zG A7.2
   rw[e1]at r1;rw[e2]at r2;rw[e3]at r3;rw[e4]at r4;rw[e5]at r5;rw[e6]at r6;rw[e7]at r7;rw[e8]at r8
   simp only at r1
   omega
  have fin:∀ (os:Sl) (ok:Bool) (ops:List MOp) tag3 I3,(∀R,qf R ro tag2 I2 tag3 I3)->jE A9.1=(if ok then some ops else none)->(ok=true->qY (fun _=>none) tag3 I3 9 os ops)->stN ((⟨X,0,none⟩:Addr).add 8) (fun I=>stN ((⟨X,0,none⟩:Addr).add 10) (fun I=> ∃(x82_22:Int),qa ro I ((⟨A,0,none⟩:Addr).add 2)=some (.int .i64 x82_22)/\
    if¬(x82_22=0)then zo B ro a0 Y X (B1.1:Nat) (B3.1:Nat) ok Q true I
    else zZ B ro (some ⟨A,0,none⟩) I fun x86_28 I=>zo B ro a0 Y X (B1.1:Nat) (B3.1:Nat) ok Q (!(decide (x86_28=0))) I) [.bool (decide ((B1.1:Int)=1))] 0 I) [Sl.v os] 0 I3:=fun os ok ops tag3 I3 st3 hge o3=>by
   refine(x2.keep (st3 [])).stAt [Sl.v os] 8 (st3 []).sep (by simp) (by simp[qg,Sl.v]) fun I4 st4 x4=>?_
   refine x4.stAt [.bool (decide ((B1.1:Int)=1))] 10 st4.sep (by simp) (by simp[qg]) fun I5 st5 x5=>?_
   have k35:qd [3] ro tag3 I3 tag3 I5:=(st4.s (by simp)).trans (st5.s (by simp))
   have k5:qd CGy ro T7 I tag3 I5:=k2.trans (((st3 []).s (by simp)).trans (k35.mono (by simp)))
   have y5:=(y2.keep (st3 [])).keepS k35
   have m5:=(m2.keep (st3 [])).keepS k35
   have rd5:=((rd2.keep (st3 [])).keep st4 (by decide)).keep st5 (by decide)
   have ew:decide ((B1.1:Int)=1)=decide (B1.1=1):=by rw[decide_eq_decide];omega
   rw[ew]at x5
   have x5':Row tag3 I5 3 88 ⟨some ⟨X,0,none⟩,13,13⟩ (jk {(wi b).c with ops:=ops} os s):=by rw[hR];exact x5
   have hs5:=k5.sep
   have last:∀ bad:Bool,(bad=true↔(wi b).r.err≠0\/0<(wi b).r.rest.length)->zo B ro a0 Y X (B1.1:Nat) (B3.1:Nat) ok Q bad I5:=fun bad hbad=>by
    unfold zo
    have hp:(wi b).p=A9.1:=by rw[hR]
    have hbt:(wi b).bit=B1.1:=by rw[hR]
    have hn:(wi b).n=B3.1:=by rw[hR]
    by_cases c:((((bad=true)\/(¬(ok=true)))\/(1<(B1.1:Int)))\/(7<(B3.1:Int)))\/(32768<(a0.len:Int))
    .rw[if_pos c]
     have hg:wJ b=none:=by
      unfold wJ
      rw[hbt,hn,hp,hge]
      split
      .rfl
      .rename_i hx
       have hok:ok=false:=by
        rcases c with(((c | c) | c) | c) | c
        .exact absurd (hbad.1 c) fun h=>hx (by rcases h with h | h;exact .inl h;exact .inr (.inl h))
        .simpa using c
        .exact absurd (by omega:1<B1.1) fun h=>hx (.inr (.inr (.inl h)))
        .exact absurd (by omega:7<B3.1) fun h=>hx (.inr (.inr (.inr (.inl h))))
        .exact absurd (by omega:32768<b.length) fun h=>hx (.inr (.inr (.inr (.inr h))))
       rw[hok];try rfl
     refine y5.stPre aih 0 _ I5 hs5 (by simp) (by simp[qg,Sl.v]) fun I6 st6 y6=>?_
     have y6':Row tag3 I6 2 88 ⟨some ⟨Y,0,none⟩,13,13⟩ (jk wh.zero nS nS):=y6
     refine⟨_,_,_,_,_,_,_,_,_,_,_,_,_,wX (y6'.read st6.sep) rfl,?_⟩
     have k6:=k5.trans (st6.s (C:=CGy) (by simp))
     have:=hQ wh.zero nS nS _ I6 (by rw[hg];try rfl) (k6.mix (by decide) tag) ⟨⟨[],rfl,wj.nil _ _ _,fun i o d h=>by cases h⟩,Row.nil _ _⟩
     rw[hg]at this
     exact this
    .rw[if_neg c]
     simp only[not_or]at c
     obtain⟨⟨⟨⟨c1,c2⟩,c3⟩,c4⟩,c5⟩:=c
     have hok:ok=true:=Classical.not_not.1 c2
     have hx:¬ ((wi b).r.err≠0\/0<(wi b).r.rest.length):=fun h=>c1 (hbad.2 h)
     have hg:wJ b=some {(wi b).c with ops:=ops}:=by
      unfold wJ
      rw[hbt,hn,hp,hge,hok]
      rw[if_neg (by rintro(h | h | h | h | h);exact hx (.inl h);exact hx (.inr h);omega;omega;omega)]
      try rfl
     refine⟨_,_,_,_,_,_,_,_,_,_,_,_,_,wX (x5'.read hs5) rfl,?_⟩
     refine y5.stPre (jk {(wi b).c with ops:=ops} os s) 0 _ I5 hs5 (by simp) (by simp[qg,Sl.v]) fun I6 st6 y6=>?_
     have y6':Row tag3 I6 2 88 ⟨some ⟨Y,0,none⟩,13,13⟩ (jk {(wi b).c with ops:=ops} os s):=y6
     refine⟨_,_,_,_,_,_,_,_,_,_,_,_,_,wX (y6'.read st6.sep) rfl,?_⟩
     have k6:=k5.trans (st6.s (C:=CGy) (by simp))
     have k56:qd [2] ro tag3 I5 tag3 I6:=st6.s (by simp)
     have m6:Row tag3 I6 10 3 s (({(wi b).c with ops:=ops}:wh).members.map vI):=by rw[hR];exact m5.keepS k56
     have:=hQ {(wi b).c with ops:=ops} os s _ I6 (by rw[hg];try rfl) (k6.mix (by decide) tag) ⟨(((o3 hok).keepN k35 (by decide) (by decide)).keepN k56 (by decide) (by decide)).mixN k6 (by decide) tag,m6.mix k6 (by decide) tag⟩
     rw[hg]at this
     exact this
   have hr:(wi b).r=B4.2:=by rw[hR]
   refine⟨_,rd5.err hs5,?_⟩
   by_cases c:B4.2.err=0
   .rw[if_neg (by simpa using c)]
    refine adJ rd5 h hl ?_
    refine last _ ?_
    rw[hr]
    simp only[ne_eq,c,not_true_eq_false,false_or,Bool.not_eq_true',decide_eq_false_iff_not]
    omega
   .rw[if_pos (by simpa using c)]
    refine last true ?_
    rw[hr]
    exact⟨fun _=> .inl (by simpa using c),fun _=>rfl⟩
  refine akm (tag:=tag2) (q:=9) (by decide) (by decide) (by decide) (by decide) (b2.read k2.sep) k2.sep (Row.cap b2) hA9 (fun hn os tag3 I3 st3=>?_) fun ops hn os tag3 I3 st3 o3=>?_
  .exact fin os false [] tag3 I3 st3 hn (fun h=>by cases h)
  .exact fin os true ops tag3 I3 st3 hn fun _=>o3
 | succ k ih=>
  intro j s l z tag2 I2 hj hl2 hg k2 y2 x2 b2 m2 rd2
  refine lfpD.intro ?_
  unfold xF
  rw[if_pos (by rw[mn];omega)]
  have hs2:=k2.sep
  refine abf tag2 [3] ?_
  have hsA:SL.Sep (join ro (SL.inR tag2 [3] I2)) (SL.vt tag2 [3] I2):=hs2.lentR
  refine⟨s,x2.lendR hs2 (by simp) rfl (i:=12) rfl,?_⟩
  refine zV (rd2.outR (L:=[3]) (by simp)) (afF h) hl fun I3 st3 rd3=>?_
  refine ql (tag:=tag2) 0 st3.sep fun w tag4 I4 st4 w4=>?_
  intro hd
  have kA:qd [4] (join ro (SL.inR tag2 [3] I2)) tag2 (SL.vt tag2 [3] I2) tag4 I4:=(st3.s (by simp)).trans ((st4 []).s (by simp))
  have kB:=kA.backR hs2 hd
  have rd5:=(rd3.keep (st4 [])).backR hd
  have w5:=w4.backR hd
  have x5:=x2.againR (L:=[3]) (tag1:=tag4) (τ:=I4) (by simp)
  generalize (join (SL.inR tag2 [3] I2) I4)=I5 at kB rd5 w5 x5⊢
  generalize (tagB tag2 tag4 [3] I2)=tag5 at kB rd5 w5 x5
  have m5:=m2.keepS kB
  refine ud m5 kB.sep aeX aid rfl (by simp[qg]) ((w5.read kB.sep).2.2 _ rfl 0 (.int .i64 ((qo z).1:Nat)) rfl) rfl (by rw[List.length_map,hl2];omega) (by decide) fun s' tag6 I6 st6 m6=>?_
  refine⟨s',rfl,?_⟩
  refine(x5.keep st6 (by decide)).stAt [Sl.v s'] 12 st6.sep (by simp) (by simp[qg,Sl.v]) fun I7 st7 x7=>?_
  rw[Pa.inc j (by omega)]
  have k57:qd [3,10] ro tag5 I5 tag6 I7:=(st6.s (by simp)).trans (st7.s (by simp))
  refine ih (j+1) s' (l++[((qo z).1:Int)]) (qo z).2 tag6 I7 (by omega) (by simp[hl2]) ?_ (k2.trans ((kB.mono (by simp)).trans (k57.mono (by simp)))) ((y2.keepS kB).keepS k57) x7 ((b2.keepS kB).keepS k57) (by rw[List.map_append];exact m6.keep st7 (by decide)) ((rd5.keep st6 (by decide)).keep st7 (by decide))
  rw[<-hg]
  simp[vo]
end Zt
namespace Zt
open Go SL G Pa Wi
variable{B:World}{ro I I':AH}{tag tag':Nat->Nat}{L:List Nat}
theorem qY.backR{ro1:AH}{tag1:Nat->Nat}{τ:AH}{q:Nat}{s:Sl}{ops:List MOp}(h:qY ro1 tag1 τ q s ops)(hd:qz (SL.inR tag L I) τ):qY ro1 (tagB tag tag1 L I) (join (SL.inR tag L I) τ) q s ops:=by
 obtain⟨ds,h1,h2,h3⟩:=h
 refine⟨ds,h1,wj.backR h2 hd,fun i o d ho hd'=>?_⟩
 rcases h3 i o d ho hd' with h | h
 .exact .inl h
 .exact .inr (h.backR hd)
def ajF(q:Nat)(ro:AH)(tag:Nat->Nat)(I:AH)(s:Sl)(ops:List MOp):Prop:=acl ro s ops\/∃ q',q'%64∉[0,2,3,q]/\wW tag I q' s ops
theorem ajF.x{q:Nat}{s:Sl}{ops:List MOp}{U τ:AH}{tag1:Nat->Nat}(hq:q<64)(hq6:q≠6)(h:acl ro s ops\/∃ q',q'%64∉[0,2,3,q]/\wW tag I q' s ops)(st:qd [0,q] (join ro U) tag I tag1 τ):ajw ro (join ro U) tag1 τ s ops:=by
 rcases h with h | ⟨q',hq',h⟩
 .refine⟨h.1,fun j o ho=>?_⟩
  obtain⟨p,d,e1,e2,e3,e4⟩:=h.2 j o ho
  exact⟨p,d,e1,wr 0 fun i v hv=>by rw[Nat.zero_add];exact ac4 (abJ (e2 (fun _=>none)) hv),.inl e3⟩
 .simp only[List.mem_cons,List.not_mem_nil,or_false,not_or]at hq'
  obtain⟨ds,h1,h2,h3⟩:=h.keepS st (by simp;omega) (by simp;omega)
  exact ajY h1 h2 (fun i o d ho hd=> .inr (h3 i o d ho hd)) st.sep
theorem ac8{q:Nat}{os ms:Sl}{c:wh}{Q:Int->ByteArray->Int->Int->Int->Int->Int->Int->Sl->ByteArray->Bool->Int->Sl->AH->Prop}(hq:q<64)(hq':q∉[0,2,3,6])(hE:ajF q ro tag I os c.ops)(hl:c.ops.length<=2199023255488)
  (hQ:∀ os' tag' I',qd [0,2,3,q] ro tag I tag' I'->qY ro tag' I' q os' c.ops->Q c.kind (S c.home) c.session c.req c.nonce c.lease c.beats c.ack os' (S c.path) c.watch c.epoch ms I'):
  vc B ro c.kind (S c.home) c.session c.req c.nonce c.lease c.beats c.ack os (S c.path) c.watch c.epoch ms I Q:=by
 refine af3 fun hs=>?_
 unfold abM
 simp only[List.mem_cons,List.not_mem_nil,or_false,not_or]at hq'
 have hqm:q%64=q:=Nat.mod_eq_of_lt hq
 refine ql (tag:=tag) 2 hs fun X tag1 I1 st1 x1=>?_
 refine ql (tag:=tag1) 3 (st1 []).sep fun Y tag2 I2 st2 y2=>?_
 have x2:=x1.keep (st2 [])
 have hs2:=(st2 []).sep
 have k2:∀ R,qf R ro tag I tag2 I2:=fun R=>(st1 R).trans (st2 R)
 refine abf tag2 [2] ?_
 have hsA:SL.Sep (join ro (SL.inR tag2 [2] I2)) (SL.vt tag2 [2] I2):=hs2.lentR
 have gx:∀ {τ:AH} i v,(jk c os ms)[i]?=some v->qa (join ro (SL.inR tag2 [2] I2)) τ ((⟨X,0,none⟩:Addr).add i)=some v:=fun{τ} i v hv=>x2.lendR hs2 (by simp) rfl hv
 refine⟨c.kind,by simpa using gx 0 _ rfl,S c.home,gx 1 _ rfl,c.session,gx 2 _ rfl,c.req,gx 3 _ rfl,c.nonce,gx 4 _ rfl,c.lease,gx 5 _ rfl,c.beats,gx 6 _ rfl,c.ack,gx 7 _ rfl,S c.path,gx 9 _ rfl,c.watch,gx 10 _ rfl,c.epoch,gx 11 _ rfl,ms,gx 12 _ rfl,os,gx 8 _ rfl,?_⟩
 have hE2:acl ro os c.ops\/∃ q',q'%64∉[0,2,3,q]/\wW tag2 (SL.vt tag2 [2] I2) q' os c.ops:=by
  rcases hE with h | ⟨q',hq'',h⟩
  .exact .inl h
  .refine .inr ⟨q',hq'',wW.outR (h.keepS (pH (C:=[]) k2) (by simp) (by simp)) (fun hm=>?_) (by simp)⟩
   have e:=List.mem_singleton.1 hm
   rw[e]at hq'';simp at hq''
 refine ajx (ro1:=ro) hq (by omega) (by omega) (fun tag' τ st=>ajF.x hq (by omega) hE2 st) hl fun os' tag3 I3 st3 o3=>?_
 intro hd
 have kB:=st3.backR hs2 hd
 have o4:=o3.backR hd
 have y4:Row (tagB tag2 tag3 [2] I2) (join (SL.inR tag2 [2] I2) I3) 3 _ _ _:=y2.keepS kB (by simp;omega)
 generalize (join (SL.inR tag2 [2] I2) I3)=I4 at kB o4 y4⊢
 generalize (tagB tag2 tag3 [2] I2)=tag4 at kB o4 y4
 refine y4.stPre (jk c os' ms) 0 _ I4 kB.sep (by simp) (acD _ _ _) fun I5 st5 y5=>?_
 have y5':Row tag4 I5 3 88 ⟨some ⟨Y,0,none⟩,13,13⟩ (jk c os' ms):=y5
 refine⟨_,_,_,_,_,_,_,_,_,_,_,_,_,wX (y5'.read st5.sep) rfl,?_⟩
 exact hQ os' tag4 I5 ((pH k2).trans ((kB.mono (by simp)).trans (st5.s (by simp)))) (o4.keepN (C:=[3]) (st5.s (by simp)) (by simp[hqm];omega) (by simp))
def jF(c:wh):Option (Int×Str):=if(qS c).isSome=false\/c.kind<1\/8<c.kind then none else if c.kind=8 then some (2,[])else if wU c.home=true then some (1,c.home)else none
theorem aij{os ms:Sl}{c:wh}{Q:Int->ByteArray->Sl->Int->AH->Prop}(hO:aai ro tag I os c.ops)(hM:SL.qy ro I ms (c.members.map vI))(hs:abN c)(hm:c.members.length<=1048576)
  (hno:jF c=none->∀ tag' I',qd [2,3] ro tag I tag' I'->Q 0 (S []) nS 170 I')
  (hyes:∀ k h,jF c=some (k,h)->∀ s tag' I',qd [2,3] ro tag I tag' I'->Row tag' I' 6 5 s (((qS c).getD []).map vU)->Q k (S h) s 0 I'):uN B ro c.kind (S c.home) c.session c.req c.nonce c.lease c.beats c.ack os (S c.path) c.watch c.epoch ms I Q:=by
 refine aeu fun hsep=>?_
 unfold aaf
 refine ql (tag:=tag) 2 hsep fun X tag1 I1 st1 x1=>?_
 refine ql (tag:=tag1) 3 (st1 []).sep fun Y tag2 I2 st2 y2=>?_
 have x2:=x1.keep (st2 [])
 have hs2:=(st2 []).sep
 have k2:∀ R,qf R ro tag I tag2 I2:=fun R=>(st1 R).trans (st2 R)
 refine⟨_,_,_,_,_,_,_,_,_,_,_,_,_,wX (x2.read hs2) rfl,?_⟩
 have hO2:aai ro tag2 I2 os c.ops:=⟨hO.1,fun j o ho=>by
  obtain⟨q,d,e1,e2,e3⟩:=hO.2 j o ho
  refine⟨q,d,e1,wr 0 fun i v hv=>by rw[Nat.zero_add];exact afI (yg k2) (abJ e2 hv),e3.keepS (pH (C:=[]) k2) (by simp)⟩⟩
 refine afP (tag:=tag2) hO2 (hM.hle (yg k2)) hs2 hs hm fun s tag3 I3 st3 r3=>?_
 have hs3:=(st3 []).sep
 have x3:=x2.keep (st3 [])
 have y3:=y2.keep (st3 [])
 have k3:qd [2,3] ro tag I tag3 I3:=(pH k2).trans (pH st3)
 have g3:=(x3.read hs3).2.2 _ rfl
 have fin:∀ (k:Int) (h:Str) (d:Sl) (R:Int->ByteArray->Sl->AH->Prop),(∀I4,qd [2,3] ro tag I tag3 I4->Row tag3 I4 6 5 s (((qS c).getD []).map vU)->R k (S h) d I4)->stN ⟨Y,0,none⟩ (fun I=> ∃(a:Int) (b:ByteArray) (e:Sl),SL.qj ro I ⟨Y,0,none⟩ 0 [.int .i64 a,.string b,Sl.v e]/\R a b e I) [.int .i64 k,.string (S h),Sl.v d] 0 I3:=fun k h d R hR=>by
  refine y3.stPre [.int .i64 k,.string (S h),Sl.v d] 0 _ I3 hs3 (by simp) (by simp[qg,Sl.v]) fun I4 st4 y4=>?_
  have y4':Row tag3 I4 3 96 ⟨some ⟨Y,0,none⟩,3,3⟩ [.int .i64 k,.string (S h),Sl.v d]:=y4
  exact⟨k,S h,d,wX (y4'.read st4.sep) rfl,hR I4 (k3.trans (st4.s (by simp))) (r3.keep st4)⟩
 have bad:jF c=none->vj B ro X Y s Q true I3:=fun h=>by
  unfold vj
  rw[if_pos rfl]
  exact fin 0 [] nS (fun a b e I=>Q a b e 170 I) fun I4 k4 _=>hno h _ _ k4
 cases hp:(qS c).isSome with
 | false=>
  simp only[Bool.false_eq_true,if_false]
  rw[if_pos (by decide)]
  unfold vT
  rw[if_pos rfl]
  exact bad (by unfold jF;rw[if_pos (.inl hp)])
 | true=>
 simp only[if_true]
 rw[if_neg (by decide)]
 refine⟨c.kind,g3 0 _ rfl,?_⟩
 unfold vT
 by_cases c1:c.kind<1
 .rw[if_pos (by simpa using c1)]
  exact bad (by unfold jF;rw[if_pos (.inr (.inl c1))])
 rw[if_neg (by simpa using c1)]
 refine⟨c.kind,g3 0 _ rfl,?_⟩
 by_cases c2:8<c.kind
 .rw[show decide (8<c.kind)=true by simpa using c2]
  exact bad (by unfold jF;rw[if_pos (.inr (.inr c2))])
 rw[show decide (8<c.kind)=false by simpa using c2]
 unfold vj
 rw[if_neg (by simp)]
 have e0:¬ ((qS c).isSome=false\/c.kind<1\/8<c.kind):=by rw[hp];simp;omega
 refine⟨c.kind,g3 0 _ rfl,?_⟩
 by_cases c3:c.kind=8
 .rw[if_pos c3]
  exact fin 2 [] s (fun a b e I=>Q a b e 0 I) fun I4 k4 r4=>hyes 2 [] (by unfold jF;rw[if_neg e0,if_pos c3]) s _ _ k4 r4
 rw[if_neg c3]
 refine⟨S c.home,g3 1 _ rfl,?_⟩
 refine adV ?_
 rw[L_S]
 cases hn:wU c.home with
 | false=>
  rw[if_pos (by simp)]
  exact fin 0 [] nS (fun a b e I=>Q a b e 170 I) fun I4 k4 _=>hno (by unfold jF;rw[if_neg e0,if_neg c3,if_neg (by simp[hn])]) _ _ k4
 | true=>
  rw[if_neg (by simp)]
  refine⟨S c.home,g3 1 _ rfl,?_⟩
  exact fin 1 c.home s (fun a b e I=>Q a b e 0 I) fun I4 k4 r4=>hyes 1 c.home (by unfold jF;rw[if_neg e0,if_neg c3,if_pos hn]) s _ _ k4 r4
end Zt
namespace Zt
open Go SL G Pa Wi
variable{B:World}{ro I I':AH}{tag tag':Nat->Nat}
theorem ag7{a b:Sl}{x:List Int}{Q:Bool->AH->Prop}(ha:SL.qy ro I a (x.map Zt.vI))(hb:SL.qy ro I b (x.map Zt.vI))(hl:x.length<4611686018427387904)(hQ:Q true I):uw B ro a b I Q:=by
 refine ad2 fun _=>?_
 unfold uz
 have h1:a.len=x.length:=by rw[ha.1,List.length_map]
 have h2:b.len=x.length:=by rw[hb.1,List.length_map]
 rw[if_neg (by omega)]
 suffices∀(m j:Nat),j+m=x.length->lfpD (vE B ro a b Q) (j:Int) I from this _ 0 (Nat.zero_add _)
 intro m
 induction m with
 | zero=>
  intro j hj
  refine lfpD.intro ?_
  unfold vE
  rw[if_neg (by omega)]
  exact hQ
 | succ m ih=>
  intro j hj
  have hjx:j<x.length:=by omega
  have ptr:∀ {s:Sl},SL.qy ro I s (x.map Zt.vI)->∃ p,s.a=some p/\qa ro I (p.add j)=some (Zt.vI x[j]):=fun{s} h=>by
   obtain⟨p,hp⟩:∃ p,s.a=some p:=by
    cases e:s.a with
    | none=>have:=h.2.1 e;simp at this;rw[this]at hjx;simp at hjx
    | some p=>exact⟨p,rfl⟩
   exact⟨p,hp,h.2.2 p hp j _ (by rw[List.getElem?_map,List.getElem?_eq_getElem hjx];try rfl)⟩
  obtain⟨p,hp,cp⟩:=ptr ha
  obtain⟨q,hq,cq⟩:=ptr hb
  refine lfpD.intro ?_
  generalize hY:lfpD (vE B ro a b Q)=Y
  unfold vE
  rw[if_pos (by omega)]
  refine⟨p,hp,by omega,by omega,q,hq,by omega,by omega,x[j],by rw[Int.toNat_natCast,Nat.mul_one];exact cp,x[j],by rw[Int.toNat_natCast,Nat.mul_one];exact cq,?_⟩
  rw[if_neg (by simp),Pa.inc j (by omega),<-hY]
  exact ih (j+1) (by omega)
theorem aei{q1 q2:Nat}{os ms os2 ms2:Sl}{c:wh}{Q:Bool->AH->Prop}(h1:qY ro tag I q1 os c.ops)(h2:qY ro tag I q2 os2 c.ops)(m1:∀ tag' I',qd [0,2,3,47] ro tag I tag' I'->SL.qy ro I' ms (c.members.map vI))(m2:∀ tag' I',qd [0,2,3,47] ro tag I tag' I'->SL.qy ro I' ms2 (c.members.map vI))(hq1:q1%64∉[0,2,3,6,47])(hq2:q2%64∉[0,2,3,6,47])(h12:q1≠q2)(h26:q2≠6)(hl:c.ops.length<=2199023255488)(hml:c.members.length<=1048576)
  (hQ:∀ tag' I',qd [0,2,3,47] ro tag I tag' I'->Q true I'):zE B ro c.kind (S c.home) c.session c.req c.nonce c.lease c.beats c.ack os (S c.path) c.watch c.epoch ms c.kind (S c.home) c.session c.req c.nonce c.lease c.beats c.ack os2 (S c.path) c.watch c.epoch ms2 I Q:=by
 refine ad6 fun hs=>?_
 unfold uF
 simp only[List.mem_cons,List.not_mem_nil,or_false,not_or]at hq1 hq2
 refine ql (tag:=tag) 2 hs fun X tag1 I1 st1 x1=>?_
 refine ql (tag:=tag1) 3 (st1 []).sep fun Y tag2 I2 st2 y2=>?_
 have x2:=x1.keep (st2 [])
 have gx:=(x2.read (st2 []).sep).2.2 _ rfl
 have gy:=(y2.read (st2 []).sep).2.2 _ rfl
 refine⟨_,gx 0 _ rfl,_,gy 0 _ rfl,?_⟩
 rw[if_pos rfl]
 refine⟨_,gx 1 _ rfl,_,gy 1 _ rfl,?_⟩
 unfold xy
 rw[if_pos (decide_eq_true rfl)]
 refine⟨_,gx 2 _ rfl,_,gy 2 _ rfl,?_⟩
 unfold xx
 rw[if_pos (decide_eq_true rfl)]
 refine⟨_,gx 3 _ rfl,_,gy 3 _ rfl,?_⟩
 unfold xw
 rw[if_pos (decide_eq_true rfl)]
 refine⟨_,gx 4 _ rfl,_,gy 4 _ rfl,?_⟩
 unfold kw
 rw[if_pos (decide_eq_true rfl)]
 refine⟨_,gx 5 _ rfl,_,gy 5 _ rfl,?_⟩
 unfold ku
 rw[if_pos (decide_eq_true rfl)]
 refine⟨_,gx 6 _ rfl,_,gy 6 _ rfl,?_⟩
 unfold ks
 rw[if_pos (decide_eq_true rfl)]
 refine⟨_,gx 7 _ rfl,_,gy 7 _ rfl,?_⟩
 unfold kr
 rw[if_pos (decide_eq_true rfl)]
 refine⟨_,gx 8 _ rfl,_,gy 8 _ rfl,?_⟩
 have k2:qd [2,3] ro tag I tag2 I2:=((st1 []).s (by simp)).trans ((st2 []).s (by simp))
 refine aii (h1.keepS k2 (by simp;omega) (by decide)) (h2.keepS k2 (by simp;omega) (by decide)) (by omega) (by omega) h12 h26 hl (by omega) (by omega) fun tag3 I3 st3=>?_
 have x3:=x2.keepS st3
 have y3:=y2.keepS st3
 have gx:=(x3.read st3.sep).2.2 _ rfl
 have gy:=(y3.read st3.sep).2.2 _ rfl
 have k3:qd [0,2,3,47] ro tag I tag3 I3:=(k2.mono (by simp)).trans (st3.mono (by simp))
 unfold kq
 rw[if_pos rfl]
 refine⟨_,gx 9 _ rfl,_,gy 9 _ rfl,?_⟩
 unfold kp
 rw[if_pos (decide_eq_true rfl)]
 refine⟨_,gx 10 _ rfl,_,gy 10 _ rfl,?_⟩
 unfold ko
 rw[if_pos (by simp)]
 refine⟨_,gx 11 _ rfl,_,gy 11 _ rfl,?_⟩
 unfold kl
 rw[if_pos (decide_eq_true rfl)]
 refine⟨_,gx 12 _ rfl,_,gy 12 _ rfl,?_⟩
 refine ag7 (m1 tag3 I3 k3) (m2 tag3 I3 k3) (by omega) ?_
 unfold kk
 exact hQ tag3 I3 k3
end Zt
namespace Zt
open Go SL G Pa Wi
variable{B:World}{ro I I':AH}{tag tag':Nat->Nat}{L:List Nat}
theorem agS:∀ {n:Nat} {r r':Rd} {l:List MOp},jj n r=some (l,r')->l.length=n
 | 0,r,r',l,h=>by cases h;rfl
 | n+1,r,r',l,h=>by
  unfold jj at h
  split at h
  .cases h
  .split at h
   .cases h
   .rename_i l2 r2 e
    cases h
    simp[agS e]
theorem ajG{b:Str}{l:List MOp}(h:jE b=some l):l.length<=16:=by
 unfold jE at h
 simp only at h
 split at h
 .cases h
 .rename_i c
  split at h
  .cases h
  .rename_i l2 r2 e
   split at h
   .cases h
    have:=agS e
    omega
   .cases h
theorem ag8(b:Str):((wJ b).getD wh.zero).ops.length<=16/\((wJ b).getD wh.zero).members.length<=8:=by
 cases h:wJ b with
 | none=>simp[wh.zero]
 | some d=>
  unfold wJ at h
  split at h
  .cases h
  .split at h
   .cases h
   .rename_i os e
    cases h
    refine⟨ajG e,?_⟩
    show(wi b).c.members.length<=8
    unfold wi
    simp only
    rw[adM]
    omega
theorem qY.outR{ro1:AH}{q:Nat}{s:Sl}{ops:List MOp}(h:qY ro1 tag I q s ops)(hq:q∉L)(h6:6∉L):qY ro1 tag (SL.vt tag L I) q s ops:=by
 obtain⟨ds,h1,h2,h3⟩:=h
 refine⟨ds,h1,wj.outR h2 hq,fun i o d ho hd=>?_⟩
 rcases h3 i o d ho hd with h | h
 .exact .inl h
 .exact .inr (h.outR h6)
structure CIn(ro:AH)(os ms:Sl)(c:wh):Prop where
 r:aj1 ro os ms c
 small:abN c
 ops:c.ops.length<=1048576
 mem:c.members.length<=1048576
theorem akV{X D:Nat}{os ms s:Sl}{c:wh}{k:Int}{h:Str}{e1 e2:Nat}(g:yT ro)(hs:SL.Sep ro I)(x1:Row tag I 12 e1 ⟨some ⟨X,0,none⟩,13,13⟩ (jk c os ms))(d1:Row tag I 15 e2 ⟨some ⟨D,0,none⟩,3,3⟩ [.int .i64 k,.string (S h),Sl.v s])(hc:jF c=some (k,h)):
  wF B ro X D (fun r _=>r=true) false I:=by
 have gx:=(x1.read hs).2.2 _ rfl
 have gd:=(d1.read hs).2.2 _ rfl
 unfold wF
 rw[if_neg (by simp)]
 refine⟨c.kind,gx 0 _ rfl,?_⟩
 have last:zO B ro (fun r _=>r=true) true I:=by
  unfold zO
  rw[if_pos rfl]
  refine ae0 (tag:=tag) g fun _ _ _=>?_
  unfold vA
  rfl
 unfold jF at hc
 split at hc
 .cases hc
 split at hc
 .rename_i c8
  cases hc
  rw[if_pos c8]
  refine⟨2,gd 0 _ rfl,?_⟩
  unfold zQ
  rw[if_pos (by simp)]
  refine⟨S [],gd 1 _ rfl,?_⟩
  unfold zP
  rw[if_pos (by rw[decide_eq_true_iff];try rfl)]
  exact last
 .rename_i c8
  split at hc
  .cases hc
   rw[if_neg c8]
   unfold zQ
   rw[if_neg (by simp)]
   unfold zP
   rw[if_neg (by simp)]
   refine⟨c.kind,gx 0 _ rfl,?_⟩
   rw[if_pos c8]
   refine⟨1,gd 0 _ rfl,?_⟩
   unfold vC
   rw[if_pos (by simp)]
   refine⟨S c.home,gd 1 _ rfl,S c.home,gx 1 _ rfl,?_⟩
   unfold vB
   rw[decide_eq_true rfl]
   exact last
  .cases hc
theorem akW{X:Nat}{os ms s20 s26:Sl}{c:wh}(g:yT ro)(hi:CIn ro os ms c)(hs:SL.Sep ro I)(x1:Row tag I 12 57 ⟨some ⟨X,0,none⟩,13,13⟩ (jk c os ms))(r20:Row tag I 6 5 s20 (((qS c).getD []).map vU))(r26:Row tag I 6 5 s26 (((qS c).getD []).map vU)):
  qH B ro X s20 s26 (qS c).isSome (fun r _=>r=true) false I:=by
 unfold qH
 rw[if_neg (by simp)]
 refine⟨_,_,_,_,_,_,_,_,_,_,_,_,_,wX (x1.read hs) rfl,?_⟩
 refine aeh (tag:=tag) hi.r (by have:=hi.ops;omega) hi.mem fun os' ms' tag2 I2 st2 c2=>?_
 have hs2:=st2.sep
 have x2:=x1.keepS st2
 have b20:=r20.keepS st2
 have b26:=r26.keepS st2
 have chain:∀ (D:Nat) (e:Int) tag3 I3,qd [2,3] ro tag2 I2 tag3 I3->wv B ro X D s20 s26 e (fun r _=>r=true) (jF c).isNone I3->(if¬((qS c).isSome=true)then wG B ro X D s20 s26 e (fun r _=>r=true) true I3 else∃(x89_77:Int),qa ro I3 ⟨X,0,none⟩=some (.int .i64 x89_77)/\wG B ro X D s20 s26 e (fun r _=>r=true) (decide (x89_77<1)) I3):=fun D e tag3 I3 st3 h28=>by
  have gx:=((x2.keepS st3).read st3.sep).2.2 _ rfl
  have tt:(jF c=none)->wY B ro X D s20 s26 e (fun r _=>r=true) true I3:=fun h=>by
   unfold wY
   rw[if_pos rfl]
   rw[h]at h28
   exact h28
  cases hp:(qS c).isSome with
  | false=>
   rw[if_pos (by simp)]
   unfold wG
   rw[if_pos rfl]
   exact tt (by unfold jF;rw[if_pos (.inl hp)])
  | true=>
   rw[if_neg (by simp)]
   refine⟨c.kind,gx 0 _ rfl,?_⟩
   unfold wG
   by_cases c1:c.kind<1
   .rw[if_pos (by simpa using c1)]
    exact tt (by unfold jF;rw[if_pos (.inr (.inl c1))])
   rw[if_neg (by simpa using c1)]
   refine⟨c.kind,gx 0 _ rfl,?_⟩
   by_cases c2:8<c.kind
   .rw[show decide (8<c.kind)=true by simpa using c2]
    exact tt (by unfold jF;rw[if_pos (.inr (.inr c2))])
   rw[show decide (8<c.kind)=false by simpa using c2]
   unfold wY
   rw[if_neg (by simp)]
   have e0:¬ ((qS c).isSome=false\/c.kind<1\/8<c.kind):=by rw[hp];simp;omega
   refine⟨c.kind,gx 0 _ rfl,?_⟩
   by_cases c3:c.kind=8
   .rw[if_neg (by simpa using c3)]
    unfold zR
    have hcm:jF c=some (2,[]):=by unfold jF;rw[if_neg e0,if_pos c3]
    rw[hcm]at h28
    exact h28
   .rw[if_pos c3]
    refine⟨S c.home,gx 1 _ rfl,?_⟩
    refine ajg ?_
    rw[L_S]
    unfold zR
    have hcm:jF c=if wU c.home=true then some (1,c.home)else none:=by unfold jF;rw[if_neg e0,if_neg c3]
    rw[hcm]at h28
    cases hn:wU c.home with
    | false=>rw[hn]at h28;exact h28
    | true=>rw[hn]at h28;exact h28
 refine aij (tag:=tag2) (c2.ops.d hs2) (c2.mem.read hs2) hi.small hi.mem (fun hc tag3 I3 st3=>?_) fun k h hc s tag3 I3 st3 rs=>?_
 .refine pN (tag:=tag3) 15 st3.sep rfl (by simp[qg,Sl.v]) fun D tag4 I4 st4 d4=>?_
  have hs4:=(st4 []).sep
  have gd:=(d4.read hs4).2.2 _ rfl
  refine chain D 170 tag4 I4 (st3.trans (pH st4)) ?_
  rw[hc]
  show wv B ro X D s20 s26 170 (fun r _=>r=true) true I4
  unfold wv
  rw[if_pos rfl,if_pos rfl]
  refine⟨0,gd 0 _ rfl,?_⟩
  unfold vz
  rw[if_pos (by simp)]
  refine⟨nS,gd 2 _ rfl,?_⟩
  unfold vy
  rw[if_pos (by simp)]
  refine ae0 (tag:=tag4) g fun _ _ _=>?_
  unfold vw
  rfl
 .refine pN (tag:=tag3) 15 st3.sep rfl (by simp[qg,Sl.v]) fun D tag4 I4 st4 d4=>?_
  have hs4:=(st4 []).sep
  have k24:qd [2,3] ro tag2 I2 tag4 I4:=st3.trans (pH st4)
  refine chain D 0 tag4 I4 k24 ?_
  rw[hc]
  show wv B ro X D s20 s26 0 (fun r _=>r=true) false I4
  unfold wv
  rw[if_neg (by simp)]
  have x4:=x2.keepS k24
  have f20:=b20.keepS k24
  have f26:=b26.keepS k24
  have fs:=rs.keep (st4 [])
  obtain⟨p,hp⟩:∃ p,qS c=some p:=by
   cases hp:qS c with
   | none=>unfold jF at hc;rw[hp]at hc;simp at hc
   | some p=>exact⟨p,rfl⟩
  rw[hp]at f20 f26 fs
  simp only[Option.getD_some]at f20 f26 fs
  have hgp:=ag3 hp hi.small
  have hpl:p.length<=32768:=by
   unfold qS at hp
   split at hp
   .cases hp
   .split at hp
    .rename_i hk;cases hp;exact hk.2
    .cases hp
  refine afR (tag:=tag4) (q:=38) (m:=39) (by decide) (by decide) (by decide) (f20.read hs4) hs4 (by omega) fun d os6 ms6 tag5 I5 hd st5 c5=>?_
  rw[hgp]at hd
  have hdc:d=c:=hd
  subst hdc
  rw[hgp]
  refine pN (tag:=tag5) 16 (st5 []).sep rfl (acD _ _ _) fun E tag6 I6 st6 e6=>?_
  have hs6:=(st6 []).sep
  have k46:∀ R,qf R ro tag4 I4 tag6 I6:=fun R=>(st5 R).trans (st6 R)
  have x6:=x4.keep (k46 [])
  have d6:=d4.keep (k46 [])
  have f26':=f26.keep (k46 [])
  have fs6:=fs.keep (k46 [])
  have c6:adN tag6 I6 38 39 os6 ms6 d:=⟨wW.keepS c5.ops (pH (C:=[]) st6) (by simp) (by simp),c5.mem.keep (st6 [])⟩
  refine abf tag6 [12] ?_
  have hsA:SL.Sep (join ro (SL.inR tag6 [12] I6)) (SL.vt tag6 [12] I6):=hs6.lentR
  show if¬((0:Int)=0)then _ else _
  rw[if_neg (by simp)]
  refine⟨_,_,_,_,_,_,_,_,_,_,_,_,_,Row.lendAll x6 hs6 (by simp),?_⟩
  refine⟨_,_,_,_,_,_,_,_,_,_,_,_,_,wX ((e6.outR (L:=[12]) (by simp)).read hsA) rfl,?_⟩
  have oA:=wW.outR (L:=[12]) c6.ops (by simp) (by simp)
  have mA:=c6.mem.outR (L:=[12]) (by simp)
  refine ac8 (q:=33) (by decide) (by decide) (.inr ⟨38,by decide,oA⟩) (by have:=hi.ops;omega) fun os7 tag7 I7 st7 o7=>?_
  refine ac8 (tag:=tag7) (q:=34) (by decide) (by decide) (.inl hi.r.ops.ro') (by have:=hi.ops;omega) fun os8 tag8 I8 st8 o8=>?_
  have m8:=(mA.keepS st7).keepS st8
  refine aei (q1:=33) (q2:=34) (qY.keepN o7 st8 (by decide) (by decide)) o8 (fun tag' I' st=>(m8.keepS st).read st.sep) (fun tag' I' st=>(afF hi.r.mem).keep) (by decide) (by decide) (by decide) (by decide) (by have:=hi.ops;omega) hi.mem fun tag9 I9 st9=>?_
  rw[if_neg (by simp),if_neg (by simp)]
  have kU:qd [0,2,3,33,34,47] (join ro (SL.inR tag6 [12] I6)) tag6 (SL.vt tag6 [12] I6) tag9 I9:=(st7.mono (by decide)).trans ((st8.mono (by decide)).trans (st9.mono (by decide)))
  have dA:=(d6.outR (L:=[12]) (by simp)).keepS kU
  have sA:=(fs6.outR (L:=[12]) (by simp)).keepS kU
  have fA:=(f26'.outR (L:=[12]) (by simp)).keepS kU
  refine⟨s,(dA.read st9.sep).2.2 _ rfl 2 _ rfl,?_⟩
  refine afm (sA.read st9.sep) (fA.read st9.sep) ?_
  rw[decide_eq_true rfl]
  intro hdj
  have kB:=kU.backR hs6 hdj
  exact akV g kB.sep (x6.againR (by simp)) (dA.backR hdj) hc
theorem alD{X Y Z:Nat}{fl:Bool}{os ms os6 ms6 os9 ms9 s20 s26:Sl}{c d:wh}(g:yT ro)(hi:CIn ro os ms c)(hs:SL.Sep ro I)(hf:fl=(qS c).isSome)(hd16:d.ops.length<=16)(hd8:d.members.length<=8)
  (x1:Row tag I 12 57 ⟨some ⟨X,0,none⟩,13,13⟩ (jk c os ms)) (r20:Row tag I 6 5 s20 (((qS c).getD []).map vU)) (r26:Row tag I 6 5 s26 (((qS c).getD []).map vU))
  (y1:Row tag I 13 57 ⟨some ⟨Y,0,none⟩,13,13⟩ (jk d os6 ms6)) (z1:Row tag I 14 88 ⟨some ⟨Z,0,none⟩,13,13⟩ (jk d os9 ms9)) (c6:adN tag I 36 37 os6 ms6 d) (c9:aft tag I os9 ms9 d):
  (∃(z0:Int) (z1:ByteArray) (z2:Int) (z3:Int) (z4:Int) (z5:Int) (z6:Int) (z7:Int) (z8:Sl) (z9:ByteArray) (z10:Bool) (z11:Int) (z12:Sl),SL.qj (join ro (SL.inR tag [14] I)) (fun _=>none) ⟨Z,0,none⟩ 0 [.int .i64 z0,.string z1,.int .i64 z2,.int .i64 z3,.int .i64 z4,.int .i64 z5,.int .i64 z6,.int .i64 z7,Sl.v z8,.string z9,.bool z10,.int .i64 z11,Sl.v z12]/\∃ (y0:Int) (y1:ByteArray) (y2:Int) (y3:Int) (y4:Int) (y5:Int) (y6:Int) (y7:Int) (y8:Sl) (y9:ByteArray) (y10:Bool) (y11:Int) (y12:Sl),SL.qj (join ro (SL.inR tag [14] I)) (SL.vt tag [14] I) ⟨Y,0,none⟩ 0 [.int .i64 y0,.string y1,.int .i64 y2,.int .i64 y3,.int .i64 y4,.int .i64 y5,.int .i64 y6,.int .i64 y7,Sl.v y8,.string y9,.bool y10,.int .i64 y11,Sl.v y12]/\vc B (join ro (SL.inR tag [14] I)) y0 y1 y2 y3 y4 y5 y6 y7 y8 y9 y10 y11 y12 (SL.vt tag [14] I) fun w0 w1 w2 w3 w4 w5 w6 w7 w8 w9 w10 w11 w12 I3=>zE B (join ro (SL.inR tag [14] I)) w0 w1 w2 w3 w4 w5 w6 w7 w8 w9 w10 w11 w12 z0 z1 z2 z3 z4 z5 z6 z7 z8 z9 z10 z11 z12 I3 fun x76 I3=>(qz (SL.inR tag [14] I) I3->(fun I3=>qH B ro X s20 s26 fl (fun r _=>r=true) (!x76) I3) (join (SL.inR tag [14] I) I3))):=by
 have hsA:SL.Sep (join ro (SL.inR tag [14] I)) (SL.vt tag [14] I):=hs.lentR
 refine⟨_,_,_,_,_,_,_,_,_,_,_,_,_,Row.lendAll z1 hs (by simp),?_⟩
 refine⟨_,_,_,_,_,_,_,_,_,_,_,_,_,wX ((y1.outR (L:=[14]) (by simp)).read hsA) rfl,?_⟩
 have oA:=wW.outR (L:=[14]) c6.ops (by simp) (by simp)
 have mA:=c6.mem.outR (L:=[14]) (by simp)
 have oB:=qY.outR (L:=[14]) c9.ops (by simp) (by simp)
 have mB:=c9.mem.outR (L:=[14]) (by simp)
 refine ac8 (q:=33) (by decide) (by decide) (.inr ⟨36,by decide,oA⟩) (by omega) fun os7 tag7 I7 st7 o7=>?_
 have m7:=mA.keepS st7
 have n7:=mB.keepS st7
 refine aei (q1:=33) (q2:=9) o7 (qY.keepN oB.ofN st7 (by decide) (by decide)) (fun tag' I' st=>(m7.keepS st).read st.sep) (fun tag' I' st=>(n7.keepS st).read st.sep) (by decide) (by decide) (by decide) (by decide) (by omega) (by omega) fun tag9 I9 st9=>?_
 intro hdj
 have kU:qd [0,2,3,33,47] (join ro (SL.inR tag [14] I)) tag (SL.vt tag [14] I) tag9 I9:=(st7.mono (by decide)).trans (st9.mono (by decide))
 have kB:=kU.backR hs hdj
 rw[hf]
 exact akW g hi kB.sep (x1.keepS kB) (r20.keepS kB) (r26.keepS kB)
theorem aik{os ms:Sl}{c:wh}{Q:Sl->Bool->AH->Prop}(hx:∀ tag' I',qd [0,2] ro tag I tag' I'->aai ro tag' I' os c.ops/\SL.qy ro I' ms (c.members.map vI))(hs:abN c)
  (hQ:∀ s tag' I',qd [0,2] ro tag I tag' I'->Row tag' I' 6 5 s (((qS c).getD []).map vU)->Q s (qS c).isSome I'):pd B ro c.kind (S c.home) c.session c.req c.nonce c.lease c.beats c.ack os (S c.path) c.watch c.epoch ms I Q:=
 ag5 hx hs (fun h tag' I' st=>by have:=hQ nS tag' I' st;rw[h]at this;exact this (Row.nil _ _)) fun b h s tag' I' st r=>by have:=hQ s tag' I' st;rw[h]at this;exact this r
theorem ail{os ms a1:Sl}{c:wh}{b:Str}(g:yT ro)(hi:CIn ro os ms c)(hb:SL.qy ro (fun _=>none) a1 (b.map vU))(hcap:a1.len<=a1.cap)(hl:b.length<=1048576):aaQ B ro c.kind (S c.home) c.session c.req c.nonce c.lease c.beats c.ack os (S c.path) c.watch c.epoch ms a1 I fun r _=>r=true:=by
 refine adl fun hs=>?_
 unfold pI
 refine ql (tag:=T7) 12 hs fun X tag1 I1 st1 x1=>?_
 refine⟨_,_,_,_,_,_,_,_,_,_,_,_,_,wX (x1.read (st1 []).sep) rfl,?_⟩
 refine aeh (tag:=tag1) hi.r (by have:=hi.ops;omega) hi.mem fun os' ms' tag2 I2 st2 c2=>?_
 have hs2:=st2.sep
 have x2:=x1.keepS st2
 refine afP (tag:=tag2) (c2.ops.d hs2) (c2.mem.read hs2) hs2 hi.small hi.mem fun s20 tag3 I3 st3 r20=>?_
 have hs3:=(st3 []).sep
 have x3:=x2.keep (st3 [])
 refine⟨_,_,_,_,_,_,_,_,_,_,_,_,_,wX (x3.read hs3) rfl,?_⟩
 refine ac8 (tag:=tag3) (q:=33) (by decide) (by decide) (.inl hi.r.ops) (by have:=hi.ops;omega) fun os4 tag4 I4 st4 o4=>?_
 have hs4:=st4.sep
 have x4:=x3.keepS st4
 have r4:=r20.keepS st4
 refine aik (tag:=tag4) (fun tag' I' st=>⟨(qY.keepN o4 st (by decide) (by decide)).d st.sep,hi.r.mem.keep⟩) hi.small fun s26 tag5 I5 st5 r26=>?_
 refine copy_ok (tag:=tag5) hb.keep st5.sep (by simp;omega) (fun v hv=>by obtain⟨c,_,rfl⟩:=List.mem_map.1 hv;rfl) fun s31 tag6 I6 st6 r31=>?_
 refine afR (tag:=tag6) (q:=36) (m:=37) (by decide) (by decide) (by decide) (r31.read (st6 []).sep) (st6 []).sep (by omega) fun d os6 ms6 tag7 I7 hd st7 c7=>?_
 refine pN (tag:=tag7) 13 (st7 []).sep rfl (acD _ _ _) fun Y tag8 I8 st8 y8=>?_
 refine ag6 (tag:=tag8) hb hcap (by omega) fun d' os9 ms9 tag9 I9 hd' st9 c9=>?_
 have hdd:d'=d:=hd'.trans hd.symm
 subst hdd
 refine pN (tag:=tag9) 14 (st9 []).sep rfl (acD _ _ _) fun Z taga Ia sta za=>?_
 have hsa:=(sta []).sep
 have k8a:∀ R,qf R ro tag8 I8 taga Ia:=fun R=>(st9 R).trans (sta R)
 have k7a:∀ R,qf R ro tag7 I7 taga Ia:=fun R=>(st8 R).trans (k8a R)
 have k5a:∀ R,qf R ro tag5 I5 taga Ia:=fun R=>(st6 R).trans ((st7 R).trans (k7a R))
 have k4a:qd [0,2] ro tag4 I4 taga Ia:=st5.trans (pH k5a)
 have xa:=x4.keepS k4a
 have r20a:=r4.keepS k4a
 have r26a:=r26.keep (k5a [])
 have ya:=y8.keep (k8a [])
 have c7a:adN taga Ia 36 37 os6 ms6 d':=⟨wW.keepS c7.ops (pH (C:=[]) k7a) (by simp) (by simp),c7.mem.keep (k7a [])⟩
 have c9a:aft taga Ia os9 ms9 d':=⟨qY.keepN c9.ops (pH (C:=[]) sta) (by simp) (by simp),c9.mem.keep (sta [])⟩
 have hlen:=ag8 b
 rw[<-hd]at hlen
 refine abf taga [14] ?_
 have hsA:SL.Sep (join ro (SL.inR taga [14] Ia)) (SL.vt taga [14] Ia):=hsa.lentR
 refine afm ((r20a.outR (L:=[14]) (by simp)).read hsA) ((r26a.outR (L:=[14]) (by simp)).read hsA) ?_
 rw[decide_eq_true rfl,if_neg (by simp)]
 have fin:=fun(fl:Bool) (hf:fl=(qS c).isSome)=>alD (B:=B) g hi hsa hf hlen.1 hlen.2 xa r20a r26a ya za c7a c9a
 cases hP:(qS c).isSome with
 | false=>
  have fin':=fin false hP.symm
  simp only[Bool.false_eq_true,if_false]
  rw[if_neg (by simp),if_pos (by simp),if_neg (by simp)]
  cases hG:(wJ b).isSome with
  | false=>
   simp only[Bool.false_eq_true,if_false]
   rw[if_neg (by simp),if_pos (by simp),if_neg (by simp)]
   exact fin'
  | true=>
   simp only[if_true]
   rw[if_neg (by simp),if_neg (by simp)]
   exact fin'
 | true=>
  have fin':=fin true hP.symm
  simp only[if_true]
  rw[if_neg (by simp),if_neg (by simp)]
  cases hG:(wJ b).isSome with
  | false=>
   simp only[Bool.false_eq_true,if_false]
   rw[if_neg (by simp),if_pos (by simp),if_neg (by simp)]
   exact fin'
  | true=>
   simp only[if_true]
   rw[if_neg (by simp),if_neg (by simp)]
   exact fin'
end Zt
namespace Zt
open Go SL G Pa Wi
variable{n:Nat}{W:World}{H:Type}{enc:TypeId×Value->H}
theorem alE{cs:List Value}(h:ww 1048576 prog W H enc 57 cs):∃ (c:wh) (os ms:Sl),cs=jk c os ms/\CIn (all W) os ms c:=by
 have hl:cs.length=13:=by
  obtain⟨fs,hu,_⟩:=ph
  rw[(h.struct hu).1,alz]
 match cs,hl with
 | [v0,v1,v2,v3,v4,v5,v6,v7,v8,v9,v10,v11,v12],_=>
  have a0:=h.field ph 0 rfl
  have a1:=h.field ph 1 rfl
  have a2:=h.field ph 2 rfl
  have a3:=h.field ph 3 rfl
  have a4:=h.field ph 4 rfl
  have a5:=h.field ph 5 rfl
  have a6:=h.field ph 6 rfl
  have a7:=h.field ph 7 rfl
  have a8:=h.field ph 8 rfl
  have a9:=h.field ph 9 rfl
  have a10:=h.field ph 10 rfl
  have a11:=h.field ph 11 rfl
  have a12:=h.field ph 12 rfl
  rw[kI]at a0 a2 a3 a4 a5 a6 a7 a11
  rw[kS9]at a1 a9
  rw[kOs]at a8
  rw[kB]at a10
  rw[kIs]at a12
  obtain⟨x0,rfl,_⟩:=ww.i64 u3' a0
  obtain⟨x1,rfl,b1⟩:=ww.text u9 a1
  obtain⟨x2,rfl,_⟩:=ww.i64 u3' a2
  obtain⟨x3,rfl,_⟩:=ww.i64 u3' a3
  obtain⟨x4,rfl,_⟩:=ww.i64 u3' a4
  obtain⟨x5,rfl,_⟩:=ww.i64 u3' a5
  obtain⟨x6,rfl,_⟩:=ww.i64 u3' a6
  obtain⟨x7,rfl,_⟩:=ww.i64 u3' a7
  obtain⟨os,rfl⟩:=ww.isSlice uOs a8
  obtain⟨ops,lo,ro,bo⟩:=al2 a8
  obtain⟨x9,rfl,b9⟩:=ww.text u9 a9
  obtain⟨x10,rfl⟩:=Arg.bool uBo a10.arg
  obtain⟨x11,rfl,_⟩:=ww.i64 u3' a11
  obtain⟨ms,rfl⟩:=ww.isSlice aeX a12
  obtain⟨mm,lm,rm⟩:=alB a12
  exact⟨⟨x0,L x1,x2,x3,x4,x5,x6,x7,ops,L x9,x10,x11,mm⟩,os,ms,by simp[jk],⟨⟨ro,rm⟩,⟨by rw[zu];exact b1,by rw[zu];exact b9,bo⟩,lo,lm⟩⟩
theorem akX{s:Sl}(h:ww n prog W H enc 24 [Sl.v s]):∃ d:Str,d.length<=n/\SL.qy (all W) (fun _=>none) s (d.map vU)/\s.len<=s.cap:=by
 obtain⟨l,h1,h2,_,h4⟩:=ww.rows (α:=UInt8) (V:=fun c=>[vU c]) (G:=fun _=>True) uDs kU (fun _=>rfl) (fun cs hc hl=>by
  match cs,hl with
  | [u],_=>
   obtain⟨c,rfl⟩:=Arg.u8 uU hc.arg
   exact⟨c,rfl,trivial⟩) h
 exact⟨l,h1,h2.one,h4⟩
end Zt
namespace Zt
open Go Go.ChangeShapes Go.WideShapes Go.ChangeAt Go.RowKit
theorem aim:(Rows.storeCallsUptoRow.inPlace == prog.inPlace 8)=true:=by kernel_rfl
theorem akY:(Rows.storeCallsUptoRow.unfollowed == prog.unfollowed 8)=true:=by kernel_rfl
theorem akZ:(Rows.storeCallsUptoRow.recurses == prog.recurses 8)=true:=by kernel_rfl
theorem ajH:(Rows.storeCallsUptoRow.named == prog.varsNamed 8)=true:=by kernel_rfl
theorem ako:laidOutB prog=true:=afd
theorem aiS:joinedFacts prog 8 f8 (Rows.OpenSpec.upto Rows.storeCallsSpec).bare Rows.storeCallsUptoRow=true:=by
 unfold joinedFacts
 rw[aim,akY,akZ,ajH,ako]
 simp only[Bool.and_eq_true]
 repeat' refine And.intro ?_ ?_
 all_goals first | exact trivial | (as_aux_lemma=>kernel_rfl)