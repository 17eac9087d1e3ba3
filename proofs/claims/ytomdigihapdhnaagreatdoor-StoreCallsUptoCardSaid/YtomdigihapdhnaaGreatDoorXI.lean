import Derived.Test.YtomdigihapdhnaaGreatDoorXH
set_option linter.all false
set_option maxRecDepth 99999
set_option maxHeartbeats 0
open Go.IntKind(i64)
open Go.Proofs.Tryz
namespace Go.Proofs.YtomdigihapdhnaaGreatDoor
namespace Zt
open Go SL G Pa Wi
variable{B:World}{ro I I':AH}{tag tag':Nat->Nat}
theorem aki{m:Str}{k:Nat}{c:UInt8}(hk:m[k]?=some c)(hc:c.toNat<128):val (m.take (k+1))=val (m.take k)+128 ^ k*c.toNat:=by
 have hkl:k<m.length:=by
  rcases Nat.lt_or_ge k m.length with h | h
  .exact h
  .rw[List.getElem?_eq_none h]at hk;cases hk
 rw[List.take_add_one,hk]
 simp only[Option.toList_some]
 rw[aep,List.length_take,Nat.min_eq_left (by omega),Nat.mod_eq_of_lt hc]
theorem aib{s:Sl}{l:Str}{p:Nat}{Q:Int->Int->Int->AH->Prop}(h:SL.qy ro I s (l.map vU))(hl:l.length<=140737488355328)(hp:p<=l.length)
  (hQ:Q (num (l.drop p)).1 (if(num (l.drop p)).2.2=0 then((p+(num (l.drop p)).2.1:Nat):Int)else 0) (num (l.drop p)).2.2 I):aay B ro s (p:Int) I Q:=by
 refine aeU fun _=>?_
 unfold aaz
 have hln:s.len=l.length:=by rw[h.1,List.length_map]
 rw[if_neg (by omega)]
 obtain⟨m,hm⟩:∃ m,l.drop p=m:=⟨_,rfl⟩
 have hml:m.length+p=l.length:=by rw[<-hm,List.length_drop];omega
 rw[hm]at hQ
 have cell:∀ i (hi:i<m.length),∃q:Addr,s.a=some q/\qa ro I (q.add (Int.toNat (i64.wrap ((p:Int)+(i:Int)))*1))=some (.int .u8 (m[i].toNat:Int))/\i64.wrap ((p:Int)+(i:Int))=((p+i:Nat):Int):=fun i hi=>by
  obtain⟨q,hq⟩:∃ q,s.a=some q:=by
   cases e:s.a with
   | none=>
    have:=h.2.1 e
    rw[List.map_eq_nil_iff]at this
    rw[this,List.length_nil]at hml;omega
   | some q=>exact⟨q,rfl⟩
  have e:i64.wrap ((p:Int)+(i:Int))=((p+i:Nat):Int):=by rw[SL.qW (by omega) (by omega)];omega
  refine⟨q,hq,?_,e⟩
  rw[e,Int.toNat_natCast,Nat.mul_one]
  refine h.2.2 q hq (p+i) _ ?_
  have:l[p+i]?=some m[i]:=by rw[<-List.getElem?_drop,hm];exact List.getElem?_eq_getElem hi
  rw[List.getElem?_map,this];rfl
 have value:∀ (k:Nat) (hk:k<m.length),(∀i c,i<k->m[i]?=some c->128<=c.toNat)->k<=8->val (m.take (k+1))<4611686018427387904->num m=(val (m.take (k+1)),k+1,0)->
   lfpD (kL B ro s (p:Int) (k:Int) Q) ((0:Int),(k:Int)) I:=by
  intro k hk hhi hk8 hv en
  rw[en]at hQ
  simp only[if_true]at hQ
  suffices∀(i:Nat) (v:Nat),i<=k+1->val (m.take (k+1))=val (m.take i)+128 ^ i*v->lfpD (kL B ro s (p:Int) (k:Int) Q) ((v:Int),(i:Int) - 1) I by
   have h0:=this (k+1) 0 (by omega) (by rw[Nat.mul_zero];rfl)
   rw[show(((k+1:Nat):Int) - 1)=(k:Int) by omega]at h0
   exact h0
  intro i
  induction i with
  | zero=>
   intro v hi he
   refine lfpD.intro ?_
   unfold kL
   simp only
   rw[if_neg (by omega)]
   unfold pf
   have e1:val (m.take 0)=0:=rfl
   rw[e1,Nat.pow_zero,Nat.one_mul,Nat.zero_add]at he
   rw[he]at hQ
   rw[show i64.wrap ((i64.wrap ((p:Int)+(k:Int)))+1)=((p+(k+1):Nat):Int) by rw[SL.qW (n:=(p:Int)+(k:Int)) (by omega) (by omega),SL.qW (by omega) (by omega)];omega]
   exact hQ
  | succ i ih=>
   intro v hi he
   have him:i<m.length:=by omega
   obtain⟨q,hq,hcell,ew⟩:=cell i him
   have hp0:0<128 ^ i:=Nat.pow_pos (by decide)
   have ets:val (m.take (i+1))=val (m.take i)+128 ^ i*(m[i].toNat%128):=by
    rw[List.take_add_one,List.getElem?_eq_getElem him]
    simp only[Option.toList_some]
    rw[aep,List.length_take,Nat.min_eq_left (by omega)]
   have he2:val (m.take (k+1))=val (m.take i)+128 ^ i*(v*128+m[i].toNat%128):=by
    rw[he,ets,Nat.pow_succ,Nat.mul_add,Nat.add_assoc,Nat.add_comm (128 ^ i*(v*128)),Nat.mul_assoc,Nat.mul_comm 128 v]
   have hvb:v*128+m[i].toNat%128<=val (m.take (k+1)):=by
    rw[he2]
    have:=Nat.le_mul_of_pos_left (v*128+m[i].toNat%128) hp0
    omega
   refine lfpD.intro ?_
   unfold kL
   simp only
   rw[if_pos (by omega)]
   rw[show(((i+1:Nat):Int) - 1)=(i:Int) by omega]
   refine⟨q,hq,by rw[ew];omega,by rw[ew];omega,(m[i].toNat:Int),hcell,?_⟩
   have hlt:=ah7 m[i]
   have e1:i64.wrap ((i64.wrap ((v:Int)*128))+(Int.tmod (i64.wrap (m[i].toNat:Int)) 128))=((v*128+m[i].toNat%128:Nat):Int):=by
    rw[SL.qW (n:=(v:Int)*128) (by omega) (by omega),SL.qW (n:=(m[i].toNat:Int)) (by omega) (by omega),Int.tmod_eq_emod_of_nonneg (by omega),SL.qW (by omega) (by omega)]
    omega
   rw[e1,show i64.wrap ((i:Int) - 1)=(i:Int) - 1 by rw[SL.qW (by omega) (by omega)]]
   exact ih _ (by omega) he2
 have after:∀ x7:Int,(x7= -1/\jW 9 m=none)\/(∃k:Nat,x7=k/\jW 9 m=some k)->ju B ro s (p:Int) Q x7 I:=by
  intro x7 hx
  have ew:i64.wrap ((s.len:Int) - (p:Int))=(m.length:Int):=by rw[SL.qW (by omega) (by omega)];omega
  unfold ju
  rw[ew]
  rcases hx with⟨rfl,hsc⟩ | ⟨k,rfl,hsc⟩
  .have en:num m=(0,0,if m.length<9 then 12 else 13):=by unfold num;rw[hsc]
   rw[en]at hQ
   by_cases c:m.length<9
   .rw[if_pos (by omega)]
    rw[if_pos c]at hQ;exact hQ
   .rw[if_neg (by omega),if_pos (by decide)]
    unfold zX
    rw[if_pos rfl]
    unfold zw
    rw[if_pos rfl]
    rw[if_neg c]at hQ;exact hQ
  .obtain⟨k9,hkm,hhi,c,hck,hc128⟩:=abU 9 m k hsc
   rw[if_neg (by omega),if_neg (by omega)]
   have bad:(0<k/\m[k]?=some 0)\/4611686018427387904<=val (m.take (k+1))->Q 0 0 13 I:=fun hb=>by
    have en:num m=(0,0,13):=by unfold num;rw[hsc];simp only;rw[if_pos hb]
    rw[en]at hQ;exact hQ
   have good:¬ ((0<k/\m[k]?=some 0)\/4611686018427387904<=val (m.take (k+1)))->zw B ro s (p:Int) (k:Int) Q false I:=fun hb=>by
    have en:num m=(val (m.take (k+1)),k+1,0):=by unfold num;rw[hsc];simp only;rw[if_neg hb]
    unfold zw
    rw[if_neg (by simp)]
    exact value k hkm hhi (by omega) (by omega) en
   have hmk:m[k]=c:=by rw[List.getElem?_eq_getElem hkm]at hck;exact Option.some.inj hck
   have hvt:=acV m k
   have hvc:=aki hck hc128
   have second:(¬(0<k/\m[k]?=some 0))->zX B ro s (p:Int) (k:Int) Q false I:=fun hz=>by
    unfold zX
    rw[if_neg (by simp)]
    by_cases c8:k=8
    .subst c8
     rw[if_pos (by rfl)]
     obtain⟨q,hq,hcell,ew⟩:=cell 8 hkm
     rw[show((8:Nat):Int)=8 from rfl]at hcell ew
     refine⟨q,hq,by rw[ew];omega,by rw[ew];omega,(m[8].toNat:Int),hcell,?_⟩
     unfold vO
     rw[hmk]
     have e8:(128:Nat) ^ 8=72057594037927936:=by decide
     rw[e8]at hvt hvc
     by_cases c63:63<c.toNat
     .rw[decide_eq_true (by omega)]
      unfold zw
      rw[if_pos rfl]
      exact bad (.inr (by omega))
     .rw[decide_eq_false (by omega)]
      exact good (by rintro(h | h);exact hz h;omega)
    .rw[if_neg (by omega)]
     unfold vO
     refine good ?_
     rintro(h | h)
     .exact hz h
     .have:(128:Nat) ^ (k+1)<=128 ^ 8:=Nat.pow_le_pow_right (by decide) (by omega)
      have hv:=acV m (k+1)
      have e8:(128:Nat) ^ 8=72057594037927936:=by decide
      omega
   by_cases c0:0<k
   .rw[if_pos (by omega)]
    obtain⟨q,hq,hcell,ew⟩:=cell k hkm
    refine⟨q,hq,by rw[ew];omega,by rw[ew];omega,(m[k].toNat:Int),hcell,?_⟩
    unfold vP
    by_cases cz:c.toNat=0
    .rw[decide_eq_true (by rw[hmk];omega)]
     unfold zX
     rw[if_pos rfl]
     unfold zw
     rw[if_pos rfl]
     exact bad (.inl ⟨c0,by rw[hck,show c=0 from agd (by simpa using cz)]⟩)
    .rw[decide_eq_false (by rw[hmk];omega)]
     refine second ?_
     rintro⟨_,hz⟩
     rw[hck]at hz
     exact cz (by rw[Option.some.inj hz];rfl)
   .rw[if_neg (by omega)]
    unfold vP
    exact second fun h=>c0 h.1
 suffices∀d i,i+d=9->i<=m.length->(∀j c,j<i->m[j]?=some c->128<=c.toNat)->lfpD (xV B ro s (p:Int) Q) ((-1:Int),(i:Int)) I from
  this 9 0 rfl (Nat.zero_le _) fun j c h=>absurd h (Nat.not_lt_zero _)
 intro d
 induction d with
 | zero=>
  intro i hi him hall
  refine lfpD.intro ?_
  unfold xV
  simp only
  rw[if_neg (by omega)]
  exact after _ (.inl ⟨rfl,uY 9 m fun j c hj hc=>hall j c (by omega) hc⟩)
 | succ d ih=>
  intro i hi him hall
  have ew:i64.wrap ((p:Int)+(i:Int))=((p+i:Nat):Int):=by rw[SL.qW (by omega) (by omega)];omega
  refine lfpD.intro ?_
  unfold xV
  simp only
  by_cases c:i<m.length
  .rw[if_pos ⟨⟨by omega,by rw[ew];omega⟩,by decide⟩]
   obtain⟨q,hq,hcell,_⟩:=cell i c
   refine⟨q,hq,by rw[ew];omega,by rw[ew];omega,(m[i].toNat:Int),hcell,?_⟩
   by_cases c1:m[i].toNat<128
   .rw[if_pos (by omega)]
    unfold vQ
    rw[Pa.inc i (by omega)]
    refine lfpD.intro ?_
    simp only
    rw[if_neg (by omega)]
    exact after _ (.inr ⟨i,rfl,ahk 9 m i m[i] (by omega) hall (List.getElem?_eq_getElem c) c1⟩)
   .rw[if_neg (by omega)]
    unfold vQ
    rw[Pa.inc i (by omega)]
    refine ih (i+1) (by omega) (by omega) fun j x hj hx=>?_
    rcases Nat.lt_or_ge j i with h | h
    .exact hall j x h hx
    .obtain rfl:j=i:=by omega
     rw[List.getElem?_eq_getElem c]at hx
     cases hx;omega
  .rw[if_neg (by rw[ew];omega)]
   refine after _ (.inl ⟨rfl,uY 9 m fun j x hj hx=>?_⟩)
   have hjl:j<m.length:=by
    rcases Nat.lt_or_ge j m.length with h | h
    .exact h
    .rw[List.getElem?_eq_none h]at hx;cases hx
   exact hall j x (by omega) hx
def ji(tag:Nat->Nat)(I:AH)(q X:Nat)(s:Sl)(l:Str)(rd:Rd):Prop:= ∃p:Nat,p<=l.length/\rd.rest=l.drop p/\Row tag I q 147 ⟨some ⟨X,0,none⟩,3,3⟩ [Sl.v s,.int .i64 (p:Int),.int .i64 rd.err]
theorem zV{q X:Nat}{s:Sl}{l:Str}{rd:Rd}{Q:Int->AH->Prop}(h:ji tag I q X s l rd)(hr:SL.qy ro (fun _=>none) s (l.map vU))(hl:l.length<=140737488355328)
  (hQ:∀ I',qf [q] ro tag I tag I'->ji tag I' q X s l (qo rd).2->Q ((qo rd).1:Nat) I'):qG B ro (some ⟨X,0,none⟩) I Q:=by
 refine adf fun hs=>?_
 unfold pA
 obtain⟨p,hp,hrest,r⟩:=id h
 obtain⟨pp,hpp,hg⟩:=r.ptr hs (by simp)
 cases hpp
 refine⟨_,rfl,_,hg 2 _ rfl,?_⟩
 by_cases c:rd.err=0
 .rw[if_neg (by simpa using c)]
  refine⟨_,rfl,_,rfl,s,hg 0 _ rfl,_,hg 1 _ rfl,?_⟩
  refine aib hr.keep hl hp ?_
  have e:qo rd=((num (l.drop p)).1,⟨(l.drop p).drop (num (l.drop p)).2.1,(num (l.drop p)).2.2⟩):=by
   unfold qo;rw[if_neg (by simpa using c),hrest]
  rw[e]at hQ
  have hle:=(agy (l.drop p)).1
  rw[List.length_drop]at hle
  by_cases c2:(num (l.drop p)).2.2=0
  .rw[if_pos c2,if_neg (by simpa using c2)]
   refine⟨_,rfl,?_⟩
   refine r.st (i:=1) hs rfl (by simp) rfl fun I2 st2 r2=>?_
   refine hQ I2 st2 ⟨p+(num (l.drop p)).2.1,by omega,by rw[List.drop_drop],?_⟩
   simp only[c2]
   rw[c]at r2;exact r2
  .obtain⟨e1,e2,_⟩:=afj c2
   rw[if_neg c2,if_pos c2]
   refine⟨_,rfl,?_⟩
   refine r.st (i:=2) hs rfl (by simp) rfl fun I2 st2 r2=>?_
   rw[e1]at hQ
   exact hQ I2 st2 ⟨p,hp,by rw[e2];rfl,r2⟩
 .rw[if_pos c]
  rw[aeq c]at hQ
  exact hQ I (qf.refl hs) h
theorem adJ{q X:Nat}{s:Sl}{l:Str}{rd:Rd}{Q:Int->AH->Prop}(h:ji tag I q X s l rd)(hr:SL.qy ro (fun _=>none) s (l.map vU))(hl:l.length<=140737488355328)
  (hQ:Q (rd.rest.length:Nat) I):zZ B ro (some ⟨X,0,none⟩) I Q:=by
 refine acY fun hs=>?_
 unfold yW
 obtain⟨p,hp,hrest,r⟩:=id h
 obtain⟨pp,hpp,hg⟩:=r.ptr hs (by simp)
 cases hpp
 have hln:s.len=l.length:=by rw[hr.1,List.length_map]
 refine⟨_,rfl,_,rfl,s,hg 0 _ rfl,_,hg 1 _ rfl,?_⟩
 rw[SL.qW (by omega) (by omega)]
 rw[hrest,List.length_drop]at hQ
 rw[show((s.len:Int) - (p:Int))=((l.length - p:Nat):Int) by omega]
 exact hQ
end Zt
namespace SL
open Go
variable{ro I I':AH}{tag tag':Nat->Nat}
theorem ajq(a:Addr)(p i:Nat):(a.add p).add i=a.add (p+i):=by
 unfold Addr.add
 by_cases hp:p=0
 .subst hp;simp
 .by_cases hi:i=0
  .subst hi;simp[hp]
  .simp[hp,hi,Nat.add_assoc]
theorem qy.cut{s:Sl}{l:List Value}{p n:Nat}(h:qy ro I s l)(hc:s.len<=s.cap)(hn:p+n<=l.length):qy ro I ⟨wy s.a p s.cap 1,p+n - p,s.cap - p⟩ ((l.drop p).take n):=by
 have hl:=h.1
 refine⟨by simp;omega,fun ha=>?_,fun a ha i v hv=>?_⟩
 .unfold wy at ha
  split at ha
  .rename_i e
   have:n=0:=by omega
   subst this;simp
  .cases hs:s.a with
   | none=>rw[h.2.1 hs]at hn ⊢;simp
   | some x=>rw[hs]at ha;simp at ha
 .rw[List.getElem?_take]at hv
  split at hv
  .rename_i hin
   rw[List.getElem?_drop]at hv
   unfold wy at ha
   split at ha
   .omega
   .cases hs:s.a with
    | none=>rw[hs]at ha;cases ha
    | some x=>
     rw[hs]at ha
     simp only[Option.map_some,Nat.mul_one]at ha
     cases ha
     rw[ajq]
     exact h.2.2 x hs (p+i) v hv
  .cases hv
end SL
namespace Zt
open Go SL G Pa Wi
variable{B:World}{ro I I':AH}{tag tag':Nat->Nat}
theorem ji.keep{q X:Nat}{s:Sl}{l:Str}{rd:Rd}{R:List Nat}(h:ji tag I q X s l rd)(k:qf R ro tag I tag' I')(hq:q∉R:=by simp):ji tag' I' q X s l rd:=by
 obtain⟨p,h1,h2,h3⟩:=h
 exact⟨p,h1,h2,h3.keep k hq⟩
theorem ji.err{q X:Nat}{s:Sl}{l:Str}{rd:Rd}(h:ji tag I q X s l rd)(hs:SL.Sep ro I):qa ro I ((⟨X,0,none⟩:Addr).add 2)=some (.int .i64 rd.err):=by
 obtain⟨p,h1,h2,h3⟩:=h
 obtain⟨pp,hpp,hg⟩:=h3.ptr hs (by simp)
 cases hpp
 exact hg 2 _ rfl
theorem aaV{q X:Nat}{s:Sl}{l:Str}{rd:Rd}{Q:Sl->AH->Prop}(hq6:q≠6)(h:ji tag I q X s l rd)(hr:SL.qy ro (fun _=>none) s (l.map vU))(hc:s.len<=s.cap)(hl:l.length<=140737488355328)
  (hQ:∀ d tag' I',qf [q] ro tag I tag' I'->ji tag' I' q X s l (qO rd).2->Row tag' I' 6 5 d ((qO rd).1.map vU)->Q d I'):zt B ro (some ⟨X,0,none⟩) I Q:=by
 refine acX fun hs=>?_
 unfold yV
 have hln:s.len=l.length:=by rw[hr.1,List.length_map]
 obtain⟨p,hp,hrest,r⟩:=id h
 obtain⟨pp,hpp,hg⟩:=r.ptr hs (by simp)
 cases hpp
 refine⟨_,rfl,_,hg 1 _ rfl,?_⟩
 refine zV h hr hl fun I1 st1 h1=>?_
 obtain⟨p1,hp1,hrest1,r1⟩:=id h1
 obtain⟨pp,hpp,hg1⟩:=r1.ptr st1.sep (by simp)
 cases hpp
 refine⟨_,rfl,_,hg1 2 _ rfl,?_⟩
 by_cases c:(qo rd).2.err=0
 .rw[if_neg (by simpa using c)]
  refine adJ h1 hr hl ?_
  by_cases c2:(qo rd).2.rest.length<(qo rd).1
  .rw[if_pos (by omega)]
   have e:qO rd=([],⟨rd.rest,12⟩):=by unfold qO;rw[if_neg (by simpa using c),if_pos c2]
   rw[e]at hQ
   refine⟨_,rfl,?_⟩
   refine r1.st (i:=2) st1.sep rfl (by simp) rfl fun I2 st2 r2=>?_
   refine⟨_,rfl,?_⟩
   refine r2.st (i:=1) st2.sep rfl (by simp) rfl fun I3 st3 r3=>?_
   exact hQ _ tag I3 (st1.trans (st2.trans st3)) ⟨p,hp,hrest,r3⟩ (Row.nil _ _)
  .rw[if_neg (by omega)]
   have e:qO rd=((qo rd).2.rest.take (qo rd).1,⟨(qo rd).2.rest.drop (qo rd).1,0⟩):=by unfold qO;rw[if_neg (by simpa using c),if_neg c2]
   rw[e]at hQ
   generalize (qo rd).1=n at c2 hQ
   rw[hrest1,List.length_drop]at c2
   rw[hrest1]at hQ
   have ew:i64.wrap ((p1:Int)+(n:Int))=((p1+n:Nat):Int):=by rw[SL.qW (by omega) (by omega)];omega
   refine⟨_,rfl,_,rfl,_,rfl,s,hg1 0 _ rfl,_,hg1 1 _ rfl,_,hg1 1 _ rfl,?_⟩
   rw[ew,Int.toNat_natCast,Int.toNat_natCast]
   refine⟨⟨⟨by omega,by omega⟩,⟨by omega,by simp[cutHi];omega⟩⟩,?_⟩
   have hcut:=qy.cut (p:=p1) (n:=n) (hr.keep (I:=I1)) hc (by rw[List.length_map];omega)
   refine copy_ok (tag:=tag) (l:=((l.drop p1).take n).map vU) (by rw[List.map_take,List.map_drop];exact hcut) st1.sep (by rw[List.length_map,List.length_take,List.length_drop];omega) (fun v hv=>by obtain⟨c,_,rfl⟩:=List.mem_map.1 hv;rfl) fun d tag2 I2 st2 r2=>?_
   have r12:=r1.keep (st2 [])
   obtain⟨pp,hpp,hg2⟩:=r12.ptr (st2 []).sep (by simp)
   cases hpp
   refine⟨_,rfl,_,hg2 1 _ rfl,_,rfl,?_⟩
   rw[ew]
   refine r12.st (i:=1) (st2 []).sep rfl (by simp) rfl fun I3 st3 r3=>?_
   rw[c]at r3
   exact hQ d tag2 I3 (st1.trans ((st2 _).trans st3)) ⟨p1+n,by omega,by simp only;rw[List.drop_drop],r3⟩ (r2.keep st3 (by simp;omega))
 .rw[if_pos c]
  have e:qO rd=([],(qo rd).2):=by unfold qO;rw[if_pos c]
  rw[e]at hQ
  exact hQ _ tag I1 st1 h1 (Row.nil _ _)
end Zt
namespace G
open Go SL
variable{B:World}{ro I:AH}
def jx(B:World)(ro:AH)(Q:Bool->AH->Prop)(u0:Bool)(I:AH):=
 Q u0 I
def xO(B:World)(ro:AH)(u0:Option Addr)(Q:Bool->AH->Prop)(u1:Bool)(I:AH):=
 if u1=true then
 ∃p2,u0=some p2/\
 uf B ro (some p2) I fun u3 I=>
 jx B ro Q (decide ((u3.len:Int)=3)) I
 else
 jx B ro Q false I
def yf(B:World)(ro:AH)(u0:Option Addr)(Q:Bool->AH->Prop)(u1:Bool)(I:AH):=
 if u1=true then
 ∃p2,u0=some p2/\
 uO B ro (some p2) I fun u3 I=>
 xO B ro u0 Q (decide (u3=0)) I
 else
 xO B ro u0 Q false I
def aa9(B:World)(ro I:AH)(Q:Bool->AH->Prop):Prop:=
 nw ro I (.cells #[.int .i64 0,.int .i64 1,.int .i64 2] 3) fun u0 I=>
 ab7 B ro (⟨some ⟨u0,0,none⟩,3,3⟩:Sl) I fun u1 u2 I=>
 if(u1=none)\/(¬(u2=0))then
 Q false I
 else
 yP B ro u1 1 (⟨#[97]⟩:ByteArray) 0 0 5 100 0 0 (⟨none,0,0⟩:Sl) ByteArray.empty false 0 (⟨none,0,0⟩:Sl) I fun u3 u4 u5 u6 u7 u8 u9 u10 u11 u12 u13 u14 I=>
 nw ro I (.cells #[.int .i64 0,.int .i64 0,Sl.v (⟨none,0,0⟩:Sl),.int .i64 0,Sl.v (⟨none,0,0⟩:Sl),.int .i64 0,.int .i64 0,.int .i64 0,.int .i64 0,Sl.v (⟨none,0,0⟩:Sl),Sl.v (⟨none,0,0⟩:Sl),.int .i64 0] 30) fun u15 I=>
 stN ⟨u15,0,none⟩ (fun I=>
 ∃u16,qa ro I ⟨u15,0,none⟩=some (.int .i64 u16)/\
 if u16=0 then
  ∃u17,qa ro I ((⟨u15,0,none⟩:Addr).add 1)=some (.int .i64 u17)/\
  yf B ro u1 Q (decide (u17=1)) I
 else
 yf B ro u1 Q false I) [.int .i64 u3,.int .i64 u4,Sl.v u5,.int .i64 u6,Sl.v u7,.int .i64 u8,.int .i64 u9,.int .i64 u10,.int .i64 u11,Sl.v u12,Sl.v u13,.int .i64 u14] 0 I
theorem afq{Q:Bool->AH->Prop}(h:Sep ro I->aa9 B ro I Q):uo B ro I Q:=by
 refine zb h func20 ntmps20 fun h=>?_;unfold aa9 at h;refine z3 ?_;refine zp ?_;refine z4 ?_;refine zA (wI (vs:=[(0,.int .i64 0),(1,.int .i64 1),(2,.int .i64 2)]) (cs:= #[.int .i64 0,.int .i64 1,.int .i64 2]) rfl underlying55 ty3 (by decide) rfl rfl) h fun u0 h=>?_;refine zc func21 h ?_;rintro v I ⟨u1,u2,rfl,h⟩;iterate 5 refine zp ?_
 refine z2 (AW.seq (z3 ?_))
 refine zp ?_;refine zm (af5 rfl underlying51 rfl rfl) ?_;refine zp ?_;refine qX 3 u1.isNone [(1,.pointer u1),(14,.bool (u1.isNone || (!(decide (u2=0)))))] ?_ ?_ ?_
 .intro e2 hk2
  iterate 2 refine zn e2 ?_
  refine zk e2 ?_;exact hk2 _ (Fe e2)
 .intro e2 hk2
  refine zy e2 ?_;refine zy e2 ?_;refine zk e2 ?_;exact hk2 _ (Fe e2)
 intro fr hl
 refine Lfr hl ?_
 refine z2 ?_;refine AW.iff rfl (wt jr (qt decide_eq_true_iff)) h (fun h=>?_) (fun h=>?_)
 .refine z3 ?_;refine zp ?_;refine z2 ?_;refine AW.ret ?_;refine qi ?_;exact bR1 results20 rfl ⟨_,rfl,h⟩
 refine AW.skip ?_;refine qc (z3 ?_);refine zp ?_;refine zm (wV (vs:=[(0,.int .i64 1),(1,.string (⟨#[97]⟩:ByteArray)),(4,.int .i64 5),(5,.int .i64 100)]) (cs:= #[.int .i64 1,.string (⟨#[97]⟩:ByteArray),.int .i64 0,.int .i64 0,.int .i64 5,.int .i64 100,.int .i64 0,.int .i64 0,Sl.v (⟨none,0,0⟩:Sl),.string ByteArray.empty,.bool false,.int .i64 0,Sl.v (⟨none,0,0⟩:Sl)]) rfl underlying57 zK ai7 rfl (by kernel_rfl)) ?_
 refine zc func22 h ?_;rintro v I ⟨u3,u4,u5,u6,u7,u8,u9,u10,u11,u12,u13,u14,rfl,h⟩;refine zA (wH rfl jd) h fun u15 h=>?_;refine zs jd h fun I h=>?_;refine z4 ?_;refine zf underlying30 ab6 ?_;refine zL underlying22 h fun u16 h=>?_;iterate 2 refine zp ?_
 refine qq 4 (decide (u16=0)) decide_eq_true_iff h (fun fr I=> ∃(u17:Bool),qk [(1,.pointer u1),(25,.bool u17)] fr/\yf B ro u1 Q u17 I) ?_ ?_ ?_
 .intro h e3 hk3;refine qr (qx rfl underlying30 rfl ty3 (by decide) rfl) rfl rfl rfl rfl e3 ?_
  obtain⟨u18,hc,h⟩:=h
  refine Lyb rfl rfl rfl rfl e3 (qM rfl underlying3 rfl rfl hc ?_)
  refine zy e3 ?_;refine zk e3 ?_;exact hk3 _ _ ⟨_,FL,h⟩
 .intro h e3 hk3;iterate 3 refine zn e3 ?_
  refine zk e3 ?_;exact hk3 _ _ ⟨_,FL,h⟩
 rintro fr I ⟨u17,hl,h⟩;unfold yf at h;refine Lfr hl ?_
 refine zp ?_;refine qq 6 u17 Iff.rfl h (fun fr I=> ∃(u19:Bool),qk [(1,.pointer u1),(32,.bool u19)] fr/\xO B ro u1 Q u19 I) ?_ ?_ ?_
 .intro h e8 hk8;refine zy e8 ?_;obtain⟨p20,hc,h⟩:=h
  refine qr (wD rfl (by rw[<-hc];rfl)) rfl rfl rfl rfl e8 ?_
  refine qr (qx rfl underlying153 rfl af9 (by decide) rfl) rfl rfl rfl rfl e8 ?_
  refine Lyb rfl rfl rfl rfl e8 (qF rfl func62 rfl rfl rfl (qb.mono h ?_))
  rintro v I ⟨u21,rfl,h⟩;refine zy e8 ?_;refine zk e8 ?_;exact hk8 _ _ ⟨_,FL,h⟩
 .intro h e8 hk8;iterate 5 refine zn e8 ?_
  refine zk e8 ?_;exact hk8 _ _ ⟨_,FL,h⟩
 rintro fr I ⟨u19,hl,h⟩;unfold xO at h;refine Lfr hl ?_
 refine zp ?_;refine qq 7 u19 Iff.rfl h (fun fr I=> ∃(u22:Bool),qk [(40,.bool u22)] fr/\jx B ro Q u22 I) ?_ ?_ ?_
 .intro h e15 hk15;refine zy e15 ?_;obtain⟨p23,hc,h⟩:=h
  refine qr (wD rfl (by rw[<-hc];rfl)) rfl rfl rfl rfl e15 ?_
  refine qr (qx rfl underlying153 rfl af9 (by decide) rfl) rfl rfl rfl rfl e15 ?_
  refine Lyb rfl rfl rfl rfl e15 (qF rfl func63 rfl rfl rfl (qb.mono h ?_))
  rintro v I ⟨u24,rfl,h⟩;refine qr (qJ rfl rfl underlying55 rfl rfl) rfl rfl rfl rfl e15 ?_
  refine zy e15 ?_;refine zk e15 ?_;exact hk15 _ _ ⟨_,FL,h⟩
 .intro h e15 hk15;iterate 6 refine zn e15 ?_
  refine zk e15 ?_;exact hk15 _ _ ⟨_,FL,h⟩
 rintro fr I ⟨u22,hl,h⟩;unfold jx at h;refine Lfr hl ?_
 refine zp ?_;refine z2 ?_;refine AW.ret ?_;exact bR1 results20 rfl ⟨_,rfl,h⟩
end G
namespace Zt
open Go SL G Pa Wi
variable{B:World}{ro I I':AH}{tag tag':Nat->Nat}
theorem yg(st:∀ R,qf R ro tag I tag' I'):HLe I I':=fun c o hc=>((st []).keep c o hc (by simp)).2
theorem zG(r:Rd):(qo r).2.rest.length<=r.rest.length:=by
 unfold qo
 split
 .exact Nat.le_refl _
 .simp
theorem abi(r:Rd):(qO r).2.rest.length<=r.rest.length/\(qO r).1.length<=r.rest.length:=by
 by_cases h:(qO r).2.err=0
 .have e:=congrArg List.length (agY h).2
  unfold wT at e
  simp only[List.length_append]at e
  omega
 .have h1:=afW h
  rw[h1]
  refine⟨?_,by simp⟩
  unfold qO at h⊢
  have:=zG r
  split
  .exact this
  .split
   .exact Nat.le_refl _
   .simp only[List.length_drop];omega
end Zt
namespace G
open Go SL
variable{B:World}{ro I:AH}
def aco(B:World)(ro:AH)(a0:Sl)(I:AH)(Q:Option Addr->Int->AH->Prop):=
 yr B ro a0 I fun u0 I=>
 if¬(u0=true)then
 Q none 190 I
 else
 vY B ro a0 I fun u1 I=>
 ab8 B ro I fun u2 I=>
 adb B ro I fun u3 I=>
 aea B ro I fun u4 I=>
 nw ro I (.cells #[.int .i64 0,Sl.v u1,.pointer u2,.pointer u3,.pointer u4] 153) fun u5 I=>
 Q (some ⟨u5,0,none⟩) 0 I
theorem agN{a0:Sl}{Q:Option Addr->Int->AH->Prop}(h:Sep ro I->aco B ro a0 I Q):ab7 B ro a0 I Q:=by
 refine zb h func21 ntmps21 fun h=>?_;unfold aco at h;refine z3 ?_;iterate 2 refine zp ?_
 refine z2 (AW.seq (z3 ?_))
 refine zp ?_;refine zc func64 h ?_;rintro v I ⟨u0,rfl,h⟩;refine zp ?_;refine z2 ?_;refine AW.iff rfl (qt Iff.rfl) h (fun h=>?_) (fun h=>?_)
 .refine z3 ?_;iterate 2 refine zp ?_
  refine z2 ?_;refine AW.ret ?_;refine qi ?_;exact bR2 results21 rfl rfl ⟨_,_,rfl,h⟩
 refine AW.skip ?_;refine qc (z3 ?_);refine zp ?_;refine zc func65 h ?_;rintro v I ⟨u1,rfl,h⟩;refine zm (wV (vs:=[(0,.int .i64 0),(1,Sl.v u1)]) (cs:= #[.int .i64 0,Sl.v u1]) rfl underlying149 af9 ali rfl rfl) ?_;refine zc func66 h ?_;rintro v I ⟨u2,rfl,h⟩;refine zc func67 h ?_;rintro v I ⟨u3,rfl,h⟩;refine zc func68 h ?_;rintro v I ⟨u4,rfl,h⟩;refine zm (wV (vs:=[(0,.agg #[.int .i64 0,Sl.v u1]),(1,.pointer u2),(2,.pointer u3),(3,.pointer u4)]) (cs:= #[.int .i64 0,Sl.v u1,.pointer u2,.pointer u3,.pointer u4]) rfl underlying153 ala alj rfl rfl) ?_
 refine zA (vq rfl rfl) h fun u5 h=>?_;iterate 2 refine zp ?_
 refine z2 ?_;refine AW.ret ?_;exact bR2 results21 rfl rfl ⟨_,_,rfl,h⟩
def wO(B:World)(ro:AH)(a0:Option Addr)(u0 u1:Nat)(Q:Int->Int->Sl->Int->Sl->Int->Int->Int->Int->Sl->Sl->Int->AH->Prop)(u2:Bool)(I:AH):=
 if u2=true then
 ∃u3 u4 u5 u6 u7 u8 u9 u10 u11 u12 u13 u14 u15,qj ro I ⟨u0,0,none⟩ 0 [.int .i64 u3,.string u4,.int .i64 u5,.int .i64 u6,.int .i64 u7,.int .i64 u8,.int .i64 u9,.int .i64 u10,Sl.v u11,.string u12,.bool u13,.int .i64 u14,Sl.v u15]/\
 acO B ro a0 u3 u4 u5 u6 u7 u8 u9 u10 u11 u12 u13 u14 u15 I fun u16 u17 u18 u19 u20 u21 u22 u23 u24 u25 u26 u27 I=>
 stN ⟨u1,0,none⟩ (fun I=>
  ∃u28 u29 u30 u31 u32 u33 u34 u35 u36 u37 u38 u39,qj ro I ⟨u1,0,none⟩ 0 [.int .i64 u28,.int .i64 u29,Sl.v u30,.int .i64 u31,Sl.v u32,.int .i64 u33,.int .i64 u34,.int .i64 u35,.int .i64 u36,Sl.v u37,Sl.v u38,.int .i64 u39]/\
  Q u28 u29 u30 u31 u32 u33 u34 u35 u36 u37 u38 u39 I) [.int .i64 u16,.int .i64 u17,Sl.v u18,.int .i64 u19,Sl.v u20,.int .i64 u21,.int .i64 u22,.int .i64 u23,.int .i64 u24,Sl.v u25,Sl.v u26,.int .i64 u27] 0 I
 else
 aaY B ro 170 I fun u40 u41 u42 u43 u44 u45 u46 u47 u48 u49 u50 u51 I=>
 stN ⟨u1,0,none⟩ (fun I=>
 ∃u52 u53 u54 u55 u56 u57 u58 u59 u60 u61 u62 u63,qj ro I ⟨u1,0,none⟩ 0 [.int .i64 u52,.int .i64 u53,Sl.v u54,.int .i64 u55,Sl.v u56,.int .i64 u57,.int .i64 u58,.int .i64 u59,.int .i64 u60,Sl.v u61,Sl.v u62,.int .i64 u63]/\
 Q u52 u53 u54 u55 u56 u57 u58 u59 u60 u61 u62 u63 I) [.int .i64 u40,.int .i64 u41,Sl.v u42,.int .i64 u43,Sl.v u44,.int .i64 u45,.int .i64 u46,.int .i64 u47,.int .i64 u48,Sl.v u49,Sl.v u50,.int .i64 u51] 0 I
def pb(B:World)(ro:AH)(a0:Option Addr)(a1_0:Int)(a1_1:ByteArray)(a1_2 a1_3 a1_4 a1_5 a1_6 a1_7:Int)(a1_8:Sl)(a1_9:ByteArray)(a1_10:Bool)(a1_11:Int)(a1_12:Sl)(I:AH)(Q:Int->Int->Sl->Int->Sl->Int->Int->Int->Int->Sl->Sl->Int->AH->Prop):=
 nw ro I (.cells #[.int .i64 a1_0,.string a1_1,.int .i64 a1_2,.int .i64 a1_3,.int .i64 a1_4,.int .i64 a1_5,.int .i64 a1_6,.int .i64 a1_7,Sl.v a1_8,.string a1_9,.bool a1_10,.int .i64 a1_11,Sl.v a1_12] 57) fun u0 I=>
 nw ro I (.cells #[.int .i64 0,.int .i64 0,Sl.v (⟨none,0,0⟩:Sl),.int .i64 0,Sl.v (⟨none,0,0⟩:Sl),.int .i64 0,.int .i64 0,.int .i64 0,.int .i64 0,Sl.v (⟨none,0,0⟩:Sl),Sl.v (⟨none,0,0⟩:Sl),.int .i64 0] 30) fun u1 I=>
 ∃u2,qa ro I ⟨u0,0,none⟩=some (.int .i64 u2)/\
 if u2=1 then
 ∃u3 u4 u5 u6 u7 u8 u9 u10 u11 u12 u13 u14 u15,qj ro I ⟨u0,0,none⟩ 0 [.int .i64 u3,.string u4,.int .i64 u5,.int .i64 u6,.int .i64 u7,.int .i64 u8,.int .i64 u9,.int .i64 u10,Sl.v u11,.string u12,.bool u13,.int .i64 u14,Sl.v u15]/\
 pu B ro a0 u3 u4 u5 u6 u7 u8 u9 u10 u11 u12 u13 u14 u15 I fun u16 u17 u18 u19 u20 u21 u22 u23 u24 u25 u26 u27 I=>
 stN ⟨u1,0,none⟩ (fun I=>
  ∃u28 u29 u30 u31 u32 u33 u34 u35 u36 u37 u38 u39,qj ro I ⟨u1,0,none⟩ 0 [.int .i64 u28,.int .i64 u29,Sl.v u30,.int .i64 u31,Sl.v u32,.int .i64 u33,.int .i64 u34,.int .i64 u35,.int .i64 u36,Sl.v u37,Sl.v u38,.int .i64 u39]/\
  Q u28 u29 u30 u31 u32 u33 u34 u35 u36 u37 u38 u39 I) [.int .i64 u16,.int .i64 u17,Sl.v u18,.int .i64 u19,Sl.v u20,.int .i64 u21,.int .i64 u22,.int .i64 u23,.int .i64 u24,Sl.v u25,Sl.v u26,.int .i64 u27] 0 I
 else
 if u2=4 then
 pn I fun U I=>
  ∃p40,a0=some p40/\
  ∃u41,qa (join ro U) (fun _=>none) (p40.add 3)=some (.pointer u41)/\
  ∃u42,qa (join ro U) (fun _=>none) ((⟨u0,0,none⟩:Addr).add 6)=some (.int .i64 u42)/\
  ∃u43 u44 u45 u46 u47 u48 u49 u50 u51 u52 u53 u54 u55,qj (join ro U) I ⟨u0,0,none⟩ 0 [.int .i64 u43,.string u44,.int .i64 u45,.int .i64 u46,.int .i64 u47,.int .i64 u48,.int .i64 u49,.int .i64 u50,Sl.v u51,.string u52,.bool u53,.int .i64 u54,Sl.v u55]/\
  abr B (join ro U) u43 u44 u45 u46 u47 u48 u49 u50 u51 u52 u53 u54 u55 I fun u56 u57 I=>
  ab9 B (join ro U) u41 u56 u57 u42 I fun u58 I=>
  (qz U I->(fun I=>
  if¬(u58=true)then
   aaY B ro 150 I fun u59 u60 u61 u62 u63 u64 u65 u66 u67 u68 u69 u70 I=>
   stN ⟨u1,0,none⟩ (fun I=>
   ∃u71 u72 u73 u74 u75 u76 u77 u78 u79 u80 u81 u82,qj ro I ⟨u1,0,none⟩ 0 [.int .i64 u71,.int .i64 u72,Sl.v u73,.int .i64 u74,Sl.v u75,.int .i64 u76,.int .i64 u77,.int .i64 u78,.int .i64 u79,Sl.v u80,Sl.v u81,.int .i64 u82]/\
   Q u71 u72 u73 u74 u75 u76 u77 u78 u79 u80 u81 u82 I) [.int .i64 u59,.int .i64 u60,Sl.v u61,.int .i64 u62,Sl.v u63,.int .i64 u64,.int .i64 u65,.int .i64 u66,.int .i64 u67,Sl.v u68,Sl.v u69,.int .i64 u70] 0 I
  else
  ∃u83 u84 u85 u86 u87 u88 u89 u90 u91 u92 u93 u94 u95,qj ro I ⟨u0,0,none⟩ 0 [.int .i64 u83,.string u84,.int .i64 u85,.int .i64 u86,.int .i64 u87,.int .i64 u88,.int .i64 u89,.int .i64 u90,Sl.v u91,.string u92,.bool u93,.int .i64 u94,Sl.v u95]/\
  abr B ro u83 u84 u85 u86 u87 u88 u89 u90 u91 u92 u93 u94 u95 I fun u96 u97 I=>
  ade B ro a0 u96 u97 I fun I=>
  stN ⟨u1,0,none⟩ (fun I=>
   ∃u98 u99 u100 u101 u102 u103 u104 u105 u106 u107 u108 u109,qj ro I ⟨u1,0,none⟩ 0 [.int .i64 u98,.int .i64 u99,Sl.v u100,.int .i64 u101,Sl.v u102,.int .i64 u103,.int .i64 u104,.int .i64 u105,.int .i64 u106,Sl.v u107,Sl.v u108,.int .i64 u109]/\
   Q u98 u99 u100 u101 u102 u103 u104 u105 u106 u107 u108 u109 I) [.int .i64 0,.int .i64 0,Sl.v (⟨none,0,0⟩:Sl),.int .i64 0,Sl.v (⟨none,0,0⟩:Sl),.int .i64 0,.int .i64 0,.int .i64 0,.int .i64 0,Sl.v (⟨none,0,0⟩:Sl),Sl.v (⟨none,0,0⟩:Sl),.int .i64 0] 0 I) (join U I))
 else
 if u2=8 then
 ∃u110 u111 u112 u113 u114 u115 u116 u117 u118 u119 u120 u121 u122,qj ro I ⟨u0,0,none⟩ 0 [.int .i64 u110,.string u111,.int .i64 u112,.int .i64 u113,.int .i64 u114,.int .i64 u115,.int .i64 u116,.int .i64 u117,Sl.v u118,.string u119,.bool u120,.int .i64 u121,Sl.v u122]/\
 acN B ro a0 u110 u111 u112 u113 u114 u115 u116 u117 u118 u119 u120 u121 u122 I fun u123 u124 u125 u126 u127 u128 u129 u130 u131 u132 u133 u134 I=>
 stN ⟨u1,0,none⟩ (fun I=>
  ∃u135 u136 u137 u138 u139 u140 u141 u142 u143 u144 u145 u146,qj ro I ⟨u1,0,none⟩ 0 [.int .i64 u135,.int .i64 u136,Sl.v u137,.int .i64 u138,Sl.v u139,.int .i64 u140,.int .i64 u141,.int .i64 u142,.int .i64 u143,Sl.v u144,Sl.v u145,.int .i64 u146]/\
  Q u135 u136 u137 u138 u139 u140 u141 u142 u143 u144 u145 u146 I) [.int .i64 u123,.int .i64 u124,Sl.v u125,.int .i64 u126,Sl.v u127,.int .i64 u128,.int .i64 u129,.int .i64 u130,.int .i64 u131,Sl.v u132,Sl.v u133,.int .i64 u134] 0 I
 else
 if u2=2 then
 wO B ro a0 u0 u1 Q (decide (u2=2)) I
 else
 if u2=3 then
 wO B ro a0 u0 u1 Q (decide (u2=3)) I
 else
 if u2=5 then
 wO B ro a0 u0 u1 Q (decide (u2=5)) I
 else
 if u2=6 then
 wO B ro a0 u0 u1 Q (decide (u2=6)) I
 else
 wO B ro a0 u0 u1 Q (decide (u2=7)) I
theorem ac7{a0:Option Addr}{a1_0:Int}{a1_1:ByteArray}{a1_2 a1_3 a1_4 a1_5 a1_6 a1_7:Int}{a1_8:Sl}{a1_9:ByteArray}{a1_10:Bool}{a1_11:Int}{a1_12:Sl}{Q:Int->Int->Sl->Int->Sl->Int->Int->Int->Int->Sl->Sl->Int->AH->Prop}(h:Sep ro I->pb B ro a0 a1_0 a1_1 a1_2 a1_3 a1_4 a1_5 a1_6 a1_7 a1_8 a1_9 a1_10 a1_11 a1_12 I Q):yP B ro a0 a1_0 a1_1 a1_2 a1_3 a1_4 a1_5 a1_6 a1_7 a1_8 a1_9 a1_10 a1_11 a1_12 I Q:=by
 refine zb h func22 ntmps22 fun h=>?_;unfold pb at h;refine z3 ?_;refine zA (vq rfl rfl) h fun u0 h=>?_;refine zA (wH rfl jd) h fun u1 h=>?_;refine z2 (AW.seq (z3 ?_))
 refine zf underlying57 ty3 ?_;refine zL underlying3 h fun u2 h=>?_;refine z2 (AW.block (z3 ?_))
 iterate 2 refine zp ?_
 refine z2 ?_;refine zi h (fun h=>?_) fun h=>?_
 .refine z3 ?_;refine zp ?_;obtain⟨u3,u4,u5,u6,u7,u8,u9,u10,u11,u12,u13,u14,u15,hc,h⟩:=h
  refine zl (jb rfl underlying57 rfl zK rfl hc ?_)
  refine zc func69 h ?_;rintro v I ⟨u16,u17,u18,u19,u20,u21,u22,u23,u24,u25,u26,u27,rfl,h⟩;refine zs jd h fun I h=>?_;refine z2 ?_;refine AW.ret ?_;refine qQ (qi ?_);obtain⟨u28,u29,u30,u31,u32,u33,u34,u35,u36,u37,u38,u39,hc0,h⟩:=h
  exact ab2 results22 (wS (jR rfl underlying30 rfl jd hc0) jQ) ⟨_,_,_,_,_,_,_,_,_,_,_,_,rfl,h⟩
 refine z3 ?_;iterate 2 refine zp ?_
 refine z2 ?_;refine zi h (fun h=>?_) fun h=>?_
 .refine AW.seq (AW.seq ?_);refine AW.drawnL (fun i=>([0,0,0,0,3,2,0,0,2,0]:List Nat).getD i 2) [(4,5),(4,8)] [0,1,2,3,6,7,4,5,8,9] mixed h (by decide+kernel) ?_
  clear h
  intro U I h
  refine zq ?_;obtain⟨p40,hc,h⟩:=h
  refine Dp rfl rfl rfl rfl (wD rfl (by rw[<-hc];rfl)) ?_
  refine zg underlying153 ahZ ?_;obtain⟨u41,hc,h⟩:=h
  refine Dp rfl rfl rfl rfl (zS rfl underlying150 rfl rfl hc) ?_
  refine zg underlying57 ty3 ?_;obtain⟨u42,hc,h⟩:=h
  refine Dp rfl rfl rfl rfl (zS rfl underlying3 rfl rfl hc) ?_
  obtain⟨u43,u44,u45,u46,u47,u48,u49,u50,u51,u52,u53,u54,u55,hc,h⟩:=h
  refine Dr rfl rfl rfl rfl (abR rfl underlying57 rfl zK rfl hc) ?_
  refine Dg rfl rfl rfl rfl (qF rfl func71 rfl rfl rfl (qb.mono h ?_))
  rintro v I ⟨u56,u57,rfl,h⟩;refine Dg rfl rfl rfl rfl (qF rfl func70 rfl rfl rfl (qb.mono h ?_))
  rintro v I ⟨u58,rfl,h⟩;refine zq ?_;refine⟨_,wg.refl _,fun hdj=>?_⟩
  replace h:=h hdj
  refine qc ?_;refine AW.iff rfl (qt Iff.rfl) h (fun h=>?_) (fun h=>?_)
  .refine z3 ?_;refine zc func72 h ?_;rintro v I ⟨u59,u60,u61,u62,u63,u64,u65,u66,u67,u68,u69,u70,rfl,h⟩;refine zs jd h fun I h=>?_;refine z2 ?_;refine AW.ret ?_;refine qi (qQ (qi ?_));obtain⟨u71,u72,u73,u74,u75,u76,u77,u78,u79,u80,u81,u82,hc0,h⟩:=h
   exact ab2 results22 (wS (jR rfl underlying30 rfl jd hc0) jQ) ⟨_,_,_,_,_,_,_,_,_,_,_,_,rfl,h⟩
  refine AW.skip ?_;refine qc (z3 ?_);refine zp ?_;obtain⟨u83,u84,u85,u86,u87,u88,u89,u90,u91,u92,u93,u94,u95,hc,h⟩:=h
  refine zl (jb rfl underlying57 rfl zK rfl hc ?_)
  refine zc func71 h ?_;rintro v I ⟨u96,u97,rfl,h⟩;refine zc func73 h ?_;rintro v I ⟨rfl,h⟩;refine z4 ?_;refine zm (wV (vs:=[]) (cs:= #[.int .i64 0,.int .i64 0,Sl.v (⟨none,0,0⟩:Sl),.int .i64 0,Sl.v (⟨none,0,0⟩:Sl),.int .i64 0,.int .i64 0,.int .i64 0,.int .i64 0,Sl.v (⟨none,0,0⟩:Sl),Sl.v (⟨none,0,0⟩:Sl),.int .i64 0]) rfl underlying30 jd akC rfl (by kernel_rfl)) ?_
  refine zs jd h fun I h=>?_;refine z2 ?_;refine AW.ret ?_;refine qQ (qi ?_);obtain⟨u98,u99,u100,u101,u102,u103,u104,u105,u106,u107,u108,u109,hc0,h⟩:=h
  exact ab2 results22 (wS (jR rfl underlying30 rfl jd hc0) jQ) ⟨_,_,_,_,_,_,_,_,_,_,_,_,rfl,h⟩
 refine z3 ?_;iterate 2 refine zp ?_
 refine z2 ?_;refine zi h (fun h=>?_) fun h=>?_
 .refine z3 ?_;refine zp ?_;obtain⟨u110,u111,u112,u113,u114,u115,u116,u117,u118,u119,u120,u121,u122,hc,h⟩:=h
  refine zl (jb rfl underlying57 rfl zK rfl hc ?_)
  refine zc func74 h ?_;rintro v I ⟨u123,u124,u125,u126,u127,u128,u129,u130,u131,u132,u133,u134,rfl,h⟩;refine zs jd h fun I h=>?_;refine z2 ?_;refine AW.ret ?_;refine qQ (qi ?_);obtain⟨u135,u136,u137,u138,u139,u140,u141,u142,u143,u144,u145,u146,hc0,h⟩:=h
  exact ab2 results22 (wS (jR rfl underlying30 rfl jd hc0) jQ) ⟨_,_,_,_,_,_,_,_,_,_,_,_,rfl,h⟩
 refine AW.seqJ (fun fr I=> ∃(u147:Bool),qk [(0,.pointer a0),(3,.pointer (some ⟨u0,0,none⟩)),(4,.pointer (some ⟨u1,0,none⟩)),(35,.bool u147)] fr/\wO B ro a0 u0 u1 Q u147 I) ?_ ?_
 rotate_left
 .refine z3 ?_;iterate 2 refine zp ?_
  refine z2 ?_;refine zi h (fun h=>?_) fun h=>?_
  .refine AW.skip ?_;refine qc ?_;exact⟨_,FL,h⟩
  refine z3 ?_;iterate 2 refine zp ?_
  refine z2 ?_;refine zi h (fun h=>?_) fun h=>?_
  .refine AW.skip ?_;refine qc ?_;exact⟨_,FL,h⟩
  refine z3 ?_;iterate 2 refine zp ?_
  refine z2 ?_;refine zi h (fun h=>?_) fun h=>?_
  .refine AW.skip ?_;refine qc ?_;exact⟨_,FL,h⟩
  refine z3 ?_;iterate 2 refine zp ?_
  refine z2 ?_;refine zi h (fun h=>?_) fun h=>?_
  .refine AW.skip ?_;refine qc ?_;exact⟨_,FL,h⟩
  refine AW.reg ?_;iterate 2 refine zp ?_
  refine z2 ?_;exact⟨_,FL,h⟩
 rintro fr I ⟨u147,hl,h⟩;refine AW.weaken ?_ hl (HLe.refl _)
 unfold wO at h;refine zj h (fun h=>?_) fun h=>?_
 rotate_left
 .refine AW.skip ?_;refine wq (qc (z3 ?_));refine zc func72 h ?_;rintro v I ⟨u148,u149,u150,u151,u152,u153,u154,u155,u156,u157,u158,u159,rfl,h⟩;refine zs jd h fun I h=>?_;refine z2 ?_;refine AW.ret ?_;obtain⟨u160,u161,u162,u163,u164,u165,u166,u167,u168,u169,u170,u171,hc0,h⟩:=h
  exact ab2 results22 (wS (jR rfl underlying30 rfl jd hc0) jQ) ⟨_,_,_,_,_,_,_,_,_,_,_,_,rfl,h⟩
 refine z3 ?_;refine zp ?_;obtain⟨u172,u173,u174,u175,u176,u177,u178,u179,u180,u181,u182,u183,u184,hc,h⟩:=h
 refine zl (jb rfl underlying57 rfl zK rfl hc ?_)
 refine zc func75 h ?_;rintro v I ⟨u185,u186,u187,u188,u189,u190,u191,u192,u193,u194,u195,u196,rfl,h⟩;refine zs jd h fun I h=>?_;refine z2 ?_;refine AW.ret ?_;refine qQ (qi ?_);obtain⟨u197,u198,u199,u200,u201,u202,u203,u204,u205,u206,u207,u208,hc0,h⟩:=h
 exact ab2 results22 (wS (jR rfl underlying30 rfl jd hc0) jQ) ⟨_,_,_,_,_,_,_,_,_,_,_,_,rfl,h⟩
def yz(B:World)(ro:AH)(a0:Option Addr)(I:AH)(Q:Int->AH->Prop):=
 ∃p0,a0=some p0/\
 ∃u1,qa ro I p0=some (.int .i64 u1)/\
 Q u1 I
theorem acA{a0:Option Addr}{Q:Int->AH->Prop}(h:Sep ro I->yz B ro a0 I Q):uO B ro a0 I Q:=by
 refine zb h func62 ntmps62 fun h=>?_;unfold yz at h;refine z3 ?_;refine zp ?_;refine z4 ?_;refine zp ?_;refine zN h fun p0 h=>?_;refine zf underlying149 ty3 ?_;refine zL underlying3 h fun u1 h=>?_;refine zp ?_;refine z2 ?_;refine AW.ret ?_;exact bR1 results62 rfl ⟨_,rfl,h⟩
def jD(B:World)(ro:AH)(a0:Option Addr)(I:AH)(Q:Sl->AH->Prop):=
 ∃p0,a0=some p0/\
 ∃u1,qa ro I (p0.add 1)=some (Sl.v u1)/\
 vY B ro u1 I fun u2 I=>
 Q u2 I
theorem abP{a0:Option Addr}{Q:Sl->AH->Prop}(h:Sep ro I->jD B ro a0 I Q):uf B ro a0 I Q:=by
 refine zb h func63 ntmps63 fun h=>?_;unfold jD at h;refine z3 ?_;refine zp ?_;refine z4 ?_;refine zp ?_;refine zN h fun p0 h=>?_;refine zf underlying149 xR ?_;refine zL underlying55 h fun u1 h=>?_;refine zc func65 h ?_;rintro v I ⟨u2,rfl,h⟩;refine zp ?_;refine z2 ?_;refine AW.ret ?_;exact bR1 results63 rfl ⟨_,rfl,h⟩
def kM(B:World)(ro:AH)(a0:Sl)(Q:Bool->AH->Prop)(I:AH):=
 Q ((decide (1<=(a0.len:Int))) && (decide ((a0.len:Int)<=7))) I
def wP(B:World)(ro:AH)(a0:Sl)(u0:Int)(Q:Bool->AH->Prop)(Y2:Int->AH->Prop)(u1:Bool)(I:AH):=
 if u1=true then
 Q false I
 else
 Y2 (i64.wrap (u0+1)) I
def wQ(B:World)(ro:AH)(a0:Sl)(u0 u1:Int)(Q:Bool->AH->Prop)(Y2:Int->AH->Prop)(u2:Bool)(I:AH):=
 wP B ro a0 u0 Q Y2 u2 I
def wR(B:World)(ro:AH)(a0:Sl)(Q:Bool->AH->Prop):Int->AH->(Int->AH->Prop)->Prop:=fun u0 I Y2=>
 if u0<(a0.len:Int)then
 ∃p1,a0.a=some p1/\(0:Int)<=u0/\u0<(a0.len:Int)/\
 ∃u2,qa ro I (p1.add (Int.toNat u0*1))=some (.int .i64 u2)/\
 if(u2<0)\/(31<u2)then
  wP B ro a0 u0 Q Y2 true I
 else
 if 0<u0 then
  ∃p3,a0.a=some p3/\(0:Int)<=(i64.wrap (u0 - 1))/\(i64.wrap (u0 - 1))<(a0.len:Int)/\
  ∃u4,qa ro I (p3.add (Int.toNat (i64.wrap (u0 - 1))*1))=some (.int .i64 u4)/\
  wQ B ro a0 u0 u2 Q Y2 (decide (u2<=u4)) I
 else
 wQ B ro a0 u0 u2 Q Y2 false I
 else
 kM B ro a0 Q I
def yA(B:World)(ro:AH)(a0:Sl)(I:AH)(Q:Bool->AH->Prop):=
 lfpD (wR B ro a0 Q) (0) I
theorem acB{a0:Sl}{Q:Bool->AH->Prop}(h:Sep ro I->yA B ro a0 I Q):yr B ro a0 I Q:=by
 refine zb h func64 ntmps64 fun h=>?_;unfold yA at h;refine z3 ?_;refine zp ?_;refine z2 ?_;refine AW.seqJ (fun fr I=>qk [(0,Sl.v a0)] fr/\kM B ro a0 Q I) ?_ ?_
 .rintro fr I ⟨hl,h⟩;refine AW.weaken ?_ hl (HLe.refl _)
  unfold kM at h;refine z3 ?_;refine zp ?_;refine zm (qJ rfl rfl underlying55 rfl rfl) ?_;iterate 2 refine zp ?_
  refine qX 4 (decide (1<=(a0.len:Int))) [(39,.bool ((decide (1<=(a0.len:Int))) && (decide ((a0.len:Int)<=7))))] ?_ ?_ ?_
  .intro e3 hk3
   refine zy e3 ?_;refine qr (qJ rfl rfl underlying55 rfl rfl) rfl rfl rfl rfl e3 ?_
   refine zy e3 ?_;refine zk e3 ?_;exact hk3 _ (Fe e3)
  .intro e3 hk3
   iterate 3 refine zn e3 ?_
   refine zk e3 ?_;exact hk3 _ (Fe e3)
  intro fr hl
  refine Lfr hl ?_
  refine zp ?_;refine z2 ?_;refine AW.ret ?_;exact bR1 results64 rfl ⟨_,rfl,h⟩
 refine z3 ?_;refine zp ?_;refine zm (qJ rfl rfl underlying55 rfl rfl) ?_;refine zp ?_;refine z2 (AW.block ?_)
 refine qn.loop (fr':=[(0,Sl.v a0),(5,Sl.v a0),(6,.int .i64 (a0.len:Int)),(7,.int .i64 0)]) ?_ FL
 refine h (fun u0 I=>qn _ _ _ _ _ _ [(0,Sl.v a0),(5,Sl.v a0),(6,.int .i64 (a0.len:Int)),(7,.int .i64 u0)] I) ?_
 rintro u0 I Y2 hY2 h
 show AW _ _ _ _ _ _ _ _
 unfold wR at h;refine z3 ?_;refine zp ?_;refine z2 (AW.seq ?_)
 refine zi h (fun h=>?_) fun h=>?_
 rotate_left
 .refine AW.exit ?_;refine qR (qR ?_);refine wK ?_
  refine qc ?_;exact⟨FL,h⟩
 refine AW.skip ?_;refine qc (AW.seq (AW.block (z3 ?_)));refine zp ?_;obtain⟨p1,ha,h0,h1,h⟩:=h
 refine zm (vL rfl underlying55 ty3 (ixL rfl ha) rfl h0 h1) ?_;refine zL underlying3 h fun u2 h=>?_;iterate 2 refine zp ?_
 refine z4 ?_;iterate 3 refine zp ?_
 refine qX 3 (decide (u2<0)) [(0,Sl.v a0),(3,.int .i64 u0),(4,.int .i64 u2),(5,Sl.v a0),(6,.int .i64 (a0.len:Int)),(7,.int .i64 u0),(17,.bool ((decide (u2<0)) || (decide (31<u2))))] ?_ ?_ ?_
 .intro e2 hk2
  iterate 2 refine zn e2 ?_
  refine zk e2 ?_;exact hk2 _ (Fe e2)
 .intro e2 hk2
  refine zy e2 ?_;refine zy e2 ?_;refine zk e2 ?_;exact hk2 _ (Fe e2)
 intro fr hl
 refine Lfr hl ?_
 refine zp ?_;refine qq 12 ((decide (u2<0)) || (decide (31<u2))) (wt decide_eq_true_iff decide_eq_true_iff) h (fun fr I=> ∃(u3:Bool),qk [(0,Sl.v a0),(5,Sl.v a0),(6,.int .i64 (a0.len:Int)),(7,.int .i64 u0),(30,.bool u3)] fr/\wP B ro a0 u0 Q Y2 u3 I) ?_ ?_ ?_
 .intro h e6 hk6;iterate 3 refine zn e6 ?_
  refine Ln rfl rfl rfl rfl (.inr rfl) ?_
  refine Ln rfl rfl rfl rfl (.inr rfl) ?_
  refine Ln rfl rfl rfl rfl (.inr rfl) ?_
  refine Ln rfl rfl rfl rfl (.inr rfl) ?_
  refine Ln rfl rfl rfl rfl (.inr rfl) ?_
  refine Ln rfl rfl rfl rfl (.inr rfl) ?_
  refine Ln rfl rfl rfl rfl (.inr rfl) ?_
  refine zn e6 ?_;refine zk e6 ?_;exact hk6 _ _ ⟨_,FL,h⟩
 .intro h e6 hk6;refine zy e6 ?_;refine zy e6 ?_;refine zy e6 ?_;refine qq 8 (decide (0<u0)) decide_eq_true_iff h (fun fr I=> ∃(u4:Bool),qk [(0,Sl.v a0),(5,Sl.v a0),(6,.int .i64 (a0.len:Int)),(7,.int .i64 u0),(18,.bool ((decide (u2<0)) || (decide (31<u2)))),(29,.bool u4)] fr/\wQ B ro a0 u0 u2 Q Y2 u4 I) ?_ ?_ ?_
  .intro h e9 hk9;refine zy e9 ?_;refine zy e9 ?_;refine zy e9 ?_;refine zy e9 ?_;obtain⟨p5,ha,h0,h1,h⟩:=h
   refine qr (vL rfl underlying55 ty3 (ixL rfl ha) rfl h0 h1) rfl rfl rfl rfl e9 ?_
   obtain⟨u6,hc,h⟩:=h
   refine Lyb rfl rfl rfl rfl e9 (qM rfl underlying3 rfl rfl hc ?_)
   refine zy e9 ?_;refine qr (wa rfl (evb e9) rfl) rfl rfl rfl rfl e6 ?_
   exact hk9 _ _ ⟨_,FL,h⟩
  .intro h e9 hk9;iterate 7 refine zn e9 ?_
   refine qr (wx rfl (evb e9) rfl) rfl rfl rfl rfl e6 ?_
   exact hk9 _ _ ⟨_,FL,h⟩
  rintro fr I ⟨u4,hl,h⟩;unfold wQ at h;refine Lfr hl ?_
  refine zk e6 ?_;exact hk6 _ _ ⟨_,FL,h⟩
 rintro fr I ⟨u3,hl,h⟩;unfold wP at h;refine Lfr hl ?_
 refine z2 ?_;refine zj h (fun h=>?_) fun h=>?_
 .refine z3 ?_;refine zp ?_;refine z2 ?_;refine AW.ret ?_;refine qQ (qi (qi (qQ (qi ?_))));exact bR1 results64 rfl ⟨_,rfl,h⟩
 refine AW.skip ?_;refine wq (qc (AW.reg ?_));iterate 2 refine zp ?_
 refine z2 ?_;refine qn.head (fr':=[(0,Sl.v a0),(5,Sl.v a0),(6,.int .i64 (a0.len:Int)),(7,.int .i64 (i64.wrap (u0+1)))]) ?_ FL
 exact hY2 _ _ h
def vu(B:World)(ro:AH)(u0:Nat)(u1:Int)(Q:Int->Int->Sl->Int->Sl->Int->Int->Int->Int->Sl->Sl->Int->AH->Prop)(I:AH):=
 stN ⟨u0,0,none⟩ (fun I=>
 ∃u2 u3 u4 u5 u6 u7 u8 u9 u10 u11 u12 u13,qj ro I ⟨u0,0,none⟩ 0 [.int .i64 u2,.int .i64 u3,Sl.v u4,.int .i64 u5,Sl.v u6,.int .i64 u7,.int .i64 u8,.int .i64 u9,.int .i64 u10,Sl.v u11,Sl.v u12,.int .i64 u13]/\
 Q u2 u3 u4 u5 u6 u7 u8 u9 u10 u11 u12 u13 I) [.int .i64 0,.int .i64 u1,Sl.v (⟨none,0,0⟩:Sl),.int .i64 0,Sl.v (⟨none,0,0⟩:Sl),.int .i64 0,.int .i64 0,.int .i64 0,.int .i64 0,Sl.v (⟨none,0,0⟩:Sl),Sl.v (⟨none,0,0⟩:Sl),.int .i64 0] 0 I
def pG(B:World)(ro:AH)(a0:Option Addr)(a1_0:Int)(a1_1:ByteArray)(a1_2 a1_3 a1_4 a1_5 a1_6 a1_7:Int)(a1_8:Sl)(a1_9:ByteArray)(a1_10:Bool)(a1_11:Int)(a1_12:Sl)(I:AH)(Q:Int->Int->Sl->Int->Sl->Int->Int->Int->Int->Sl->Sl->Int->AH->Prop):=
 nw ro I (.cells #[.int .i64 a1_0,.string a1_1,.int .i64 a1_2,.int .i64 a1_3,.int .i64 a1_4,.int .i64 a1_5,.int .i64 a1_6,.int .i64 a1_7,Sl.v a1_8,.string a1_9,.bool a1_10,.int .i64 a1_11,Sl.v a1_12] 57) fun u0 I=>
 nw ro I (.cells #[.int .i64 0,.int .i64 0,Sl.v (⟨none,0,0⟩:Sl),.int .i64 0,Sl.v (⟨none,0,0⟩:Sl),.int .i64 0,.int .i64 0,.int .i64 0,.int .i64 0,Sl.v (⟨none,0,0⟩:Sl),Sl.v (⟨none,0,0⟩:Sl),.int .i64 0] 30) fun u1 I=>
 ∃u2,qa ro I ((⟨u0,0,none⟩:Addr).add 1)=some (.string u2)/\
 (⟨#[47]⟩:ByteArray).size+u2.size<=9223372036854775807/\
 ∃p3,a0=some p3/\
 ∃u4,qa ro I (p3.add 2)=some (.pointer u4)/\
 uu B ro u4 ((⟨#[47]⟩:ByteArray)++u2) I fun u5 u6 u7 u8 u9 u10 I=>
 nw ro I (.cells #[.int .i64 0,.int .i64 0,.int .i64 0,.int .i64 0] 26) fun u11 I=>
 stN ⟨u11,0,none⟩ (fun I=>
 ∃u12,qa ro I ((⟨u0,0,none⟩:Addr).add 1)=some (.string u12)/\
 jB B ro u12 I fun u13 I=>
 ∃p14,a0=some p14/\
 ∃u15,qa ro I (p14.add 3)=some (.pointer u15)/\
 ∃u16,qa ro I ((⟨u0,0,none⟩:Addr).add 1)=some (.string u16)/\
 ∃u17,qa ro I ((⟨u0,0,none⟩:Addr).add 4)=some (.int .i64 u17)/\
 ∃u18,qa ro I ((⟨u0,0,none⟩:Addr).add 5)=some (.int .i64 u18)/\
 ys B ro u15 u16 u17 u18 I fun u19 u20 u21 I=>
 if¬(u21=0)then
  aaY B ro u21 I fun u22 u23 u24 u25 u26 u27 u28 u29 u30 u31 u32 u33 I=>
  stN ⟨u1,0,none⟩ (fun I=>
  ∃u34 u35 u36 u37 u38 u39 u40 u41 u42 u43 u44 u45,qj ro I ⟨u1,0,none⟩ 0 [.int .i64 u34,.int .i64 u35,Sl.v u36,.int .i64 u37,Sl.v u38,.int .i64 u39,.int .i64 u40,.int .i64 u41,.int .i64 u42,Sl.v u43,Sl.v u44,.int .i64 u45]/\
  Q u34 u35 u36 u37 u38 u39 u40 u41 u42 u43 u44 u45 I) [.int .i64 u22,.int .i64 u23,Sl.v u24,.int .i64 u25,Sl.v u26,.int .i64 u27,.int .i64 u28,.int .i64 u29,.int .i64 u30,Sl.v u31,Sl.v u32,.int .i64 u33] 0 I
 else
 if(u13=true)/\(u10=70)then
  ∃p46,a0=some p46/\
  ∃u47,qa ro I (p46.add 2)=some (.pointer u47)/\
  yQ B ro u47 ((⟨#[47]⟩:ByteArray)++u2) (⟨none,0,0⟩:Sl) 0 false I fun u48 u49 I=>
  vu B ro u1 u19 Q I
 else
 vu B ro u1 u19 Q I) [.int .i64 u6,.int .i64 u7,.int .i64 u8,.int .i64 u9] 0 I
theorem adk{a0:Option Addr}{a1_0:Int}{a1_1:ByteArray}{a1_2 a1_3 a1_4 a1_5 a1_6 a1_7:Int}{a1_8:Sl}{a1_9:ByteArray}{a1_10:Bool}{a1_11:Int}{a1_12:Sl}{Q:Int->Int->Sl->Int->Sl->Int->Int->Int->Int->Sl->Sl->Int->AH->Prop}(h:Sep ro I->pG B ro a0 a1_0 a1_1 a1_2 a1_3 a1_4 a1_5 a1_6 a1_7 a1_8 a1_9 a1_10 a1_11 a1_12 I Q):pu B ro a0 a1_0 a1_1 a1_2 a1_3 a1_4 a1_5 a1_6 a1_7 a1_8 a1_9 a1_10 a1_11 a1_12 I Q:=by
 refine zb h func69 ntmps69 fun h=>?_;unfold pG at h;refine z3 ?_;refine zA (vq rfl rfl) h fun u0 h=>?_;refine zA (wH rfl jd) h fun u1 h=>?_;refine z4 ?_;refine zf underlying57 ty9 ?_;refine zL underlying9 h fun u2 h=>?_;obtain⟨hc,h⟩:=h
 refine zm (ahR rfl rfl rfl hc) ?_;refine zp ?_;refine z4 ?_;refine zp ?_;refine zN h fun p3 h=>?_;refine zf underlying153 ai6 ?_;refine zL underlying61 h fun u4 h=>?_;refine zp ?_;refine zc func25 h ?_;rintro v I ⟨u5,u6,u7,u8,u9,u10,rfl,h⟩;iterate 4 refine zp ?_
 refine zA (wH rfl jS) h fun u11 h=>?_;refine zp ?_;refine zs jS h fun I h=>?_;refine zp ?_;refine z4 ?_;refine zf underlying57 ty9 ?_;refine zL underlying9 h fun u12 h=>?_;refine zc func99 h ?_;rintro v I ⟨u13,rfl,h⟩;refine zp ?_;refine qX 3 u13 [(0,.pointer a0),(3,.pointer (some ⟨u0,0,none⟩)),(4,.pointer (some ⟨u1,0,none⟩)),(5,.string ((⟨#[47]⟩:ByteArray)++u2)),(31,.bool (u13 && (decide (u10=70))))] ?_ ?_ ?_
 .intro e3 hk3
  refine zy e3 ?_;refine zy e3 ?_;refine zk e3 ?_;exact hk3 _ (Fe e3)
 .intro e3 hk3
  iterate 2 refine zn e3 ?_
  refine zk e3 ?_;exact hk3 _ (Fe e3)
 intro fr hl
 refine Lfr hl ?_
 refine zp ?_;refine z2 (AW.seq ?_)
 refine AW.drawn0 (fun i=>([0,0,0,3,0,3,0,3,0,3,2,0,0,0,0,0,0,0]:List Nat).getD i 2) [] [0,1,2,4,6,8,3,5,7,9,10,11,12,13,14,15,16,17] mixed (by decide+kernel) ?_
 refine zq ?_;obtain⟨p14,hc,h⟩:=h
 refine Dp rfl rfl rfl rfl (wD rfl (by rw[<-hc];rfl)) ?_
 refine zg underlying153 ahZ ?_;refine zg underlying57 ty9 ?_;refine zg underlying57 ty3 ?_;refine zg underlying57 ty3 ?_;obtain⟨u15,hc,h⟩:=h
 refine Dr rfl rfl rfl rfl (vb rfl underlying150 rfl rfl hc) ?_
 obtain⟨u16,hc,h⟩:=h
 refine Dr rfl rfl rfl rfl (vb rfl underlying9 rfl rfl hc) ?_
 obtain⟨u17,hc,h⟩:=h
 refine Dr rfl rfl rfl rfl (vb rfl underlying3 rfl rfl hc) ?_
 obtain⟨u18,hc,h⟩:=h
 refine Dr rfl rfl rfl rfl (vb rfl underlying3 rfl rfl hc) ?_
 refine Dg rfl rfl rfl rfl (qF rfl func121 rfl rfl rfl (qb.mono h ?_))
 rintro v I ⟨u19,u20,u21,rfl,h⟩;iterate 7 refine zq ?_
 refine aat ?_
 refine qc (AW.seq (z3 ?_));iterate 2 refine zp ?_
 refine z2 ?_;refine AW.iff rfl (qt decide_eq_true_iff) h (fun h=>?_) (fun h=>?_)
 .refine z3 ?_;refine zp ?_;refine zc func72 h ?_;rintro v I ⟨u22,u23,u24,u25,u26,u27,u28,u29,u30,u31,u32,u33,rfl,h⟩;refine zs jd h fun I h=>?_;refine z2 ?_;refine AW.ret ?_;refine qi ?_;obtain⟨u34,u35,u36,u37,u38,u39,u40,u41,u42,u43,u44,u45,hc0,h⟩:=h
  exact ab2 results69 (wS (jR rfl underlying30 rfl jd hc0) jQ) ⟨_,_,_,_,_,_,_,_,_,_,_,_,rfl,h⟩
 refine AW.skip ?_;refine qc ?_;refine AW.seqJ (fun fr I=>qk [(4,.pointer (some ⟨u1,0,none⟩)),(10,.int .i64 u19)] fr/\vu B ro u1 u19 Q I) ?_ ?_
 rotate_left
 .refine z3 ?_;refine zp ?_;refine z2 ?_;refine AW.iff rfl (jA Iff.rfl decide_eq_true_iff) h (fun h=>?_) (fun h=>?_)
  rotate_left
  .refine AW.skip ?_;refine qc ?_;exact⟨FL,h⟩
  refine AW.reg ?_;refine zp ?_;refine zN h fun p46 h=>?_;refine zf underlying153 ai6 ?_;refine zL underlying61 h fun u47 h=>?_;refine zp ?_;refine zc func122 h ?_;rintro v I ⟨u48,u49,rfl,h⟩;refine z2 ?_;exact⟨FL,h⟩
 rintro fr I ⟨hl,h⟩;refine AW.weaken ?_ hl (HLe.refl _)
 unfold vu at h;refine z3 ?_;refine zp ?_;refine zm (wV (vs:=[(1,.int .i64 u19)]) (cs:= #[.int .i64 0,.int .i64 u19,Sl.v (⟨none,0,0⟩:Sl),.int .i64 0,Sl.v (⟨none,0,0⟩:Sl),.int .i64 0,.int .i64 0,.int .i64 0,.int .i64 0,Sl.v (⟨none,0,0⟩:Sl),Sl.v (⟨none,0,0⟩:Sl),.int .i64 0]) rfl underlying30 jd akC rfl (by kernel_rfl)) ?_;refine zs jd h fun I h=>?_
 refine z2 ?_;refine AW.ret ?_;obtain⟨u50,u51,u52,u53,u54,u55,u56,u57,u58,u59,u60,u61,hc0,h⟩:=h
 exact ab2 results69 (wS (jR rfl underlying30 rfl jd hc0) jQ) ⟨_,_,_,_,_,_,_,_,_,_,_,_,rfl,h⟩
def aba(B:World)(ro I:AH)(Q:Option Addr->AH->Prop):Prop:=
 nw ro I (.map #[] 0) fun u0 I=>
 nw ro I (.cells #[.map (some u0)] 242) fun u1 I=>
 Q (some ⟨u1,0,none⟩) I
theorem afr{Q:Option Addr->AH->Prop}(h:Sep ro I->aba B ro I Q):adb B ro I Q:=by
 refine zb h func67 ntmps67 fun h=>?_;unfold aba at h;refine z3 ?_;refine zp ?_;refine z4 ?_;refine zA (aeL rfl) h fun u0 h=>?_;refine zm (wV (vs:=[(0,.map (some u0))]) (cs:= #[.map (some u0)]) rfl underlying242 ale alo rfl rfl) ?_;refine zA (vq rfl rfl) h fun u1 h=>?_;refine zp ?_;refine z2 ?_;refine AW.ret ?_;exact bR1 results67 rfl ⟨_,rfl,h⟩
def ve(B:World)(ro:AH)(a0:Option Addr)(a1:ByteArray)(a2 a3:Int)(u0:Option Addr)(Q:Int->Bool->Int->AH->Prop)(u1:Bool)(I:AH):=
 if u1=true then
 Q 0 false 61 I
 else
 ∃p2,u0=some p2/\
 ∃u3,qa ro I p2=some (.int .i64 u3)/\
 ∃p4,u0=some p4/\
 stN p4 (fun I=>
 ∃p5,u0=some p5/\
 ∃p6,u0=some p6/\
 ∃p7,u0=some p7/\
 ∃u8,qa ro I (p5.add 1)=some (.map u8)/\
 ∃u9,qa ro I p6=some (.int .i64 u9)/\
 ∃u10,qa ro I p7=some (.int .i64 u10)/\
 nw ro I (.cells #[.string a1,.int .i64 u10,.int .i64 a2,.int .i64 a3,.int .i64 0,.int .i64 0,Sl.v (⟨none,0,0⟩:Sl)] 83) fun u11 I=>
 awp prog ro (Instr.mapUpdate 252 (.map u8) (.int .i64 u9) (.pointer (some ⟨u11,0,none⟩))) (fun _ I=>
  ∃p12,a0=some p12/\
  ∃u13,qa ro I p12=some (.map u13)/\
  awp prog ro (Instr.mapUpdate 240 (.map u13) (.string a1) (.pointer u0)) (fun _ I=>
  ∃p14,u0=some p14/\
  ∃u15,qa ro I p14=some (.int .i64 u15)/\
  Q u15 true 0 I) I) I) [.int .i64 (i64.wrap (u3+1))] 0 I
def kN(B:World)(ro:AH)(a0:Option Addr)(a1:ByteArray)(a2 a3:Int)(u0:Option Addr)(Q:Int->Bool->Int->AH->Prop)(I:AH):=
 ∃p1,u0=some p1/\
 ∃u2,qa ro I (p1.add 1)=some (.map u2)/\
 awp prog ro (Builtin.len_ #[252] 3 #[.map u2]) (fun v I=> ∃(u3:Int),v= .int .i64 u3/\
 if 64<=u3 then
  ve B ro a0 a1 a2 a3 u0 Q true I
 else
 ∃p4,u0=some p4/\
 ∃u5,qa ro I p4=some (.int .i64 u5)/\
 ve B ro a0 a1 a2 a3 u0 Q (decide (u5=4611686018427387903)) I) I
def uk(B:World)(ro:AH)(a0:Option Addr)(a1:ByteArray)(a2 a3:Int)(p0:Addr)(u1:Option Addr)(Q:Int->Bool->Int->AH->Prop):(Unit)->AH->((Unit)->AH->Prop)->Prop:=fun _ I Y33=>
 awp prog ro (Instr.next (.pointer (some p0)) false 0) (fun v I=>
 (v= .tuple #[.bool false]/\
  kN B ro a0 a1 a2 a3 u1 Q I)\/
 (∃(u2:Value) (u3:Value),v= .tuple #[.bool true,u2,u3]/\
  awp prog ro (Instr.entry (.pointer (some p0))) (fun v I=>
  (∃(u4:Int) (u5:Option Addr),v= .tuple #[.int .i64 u4,.pointer u5]/\
   ∃p6,u5=some p6/\
   ∃u7,qa ro I (p6.add 2)=some (.int .i64 u7)/\
   if u7=a2 then
   Q u4 false 0 I
   else
   Y33 () I)) I)) I
def vn(B:World)(ro:AH)(a0:Option Addr)(a1:ByteArray)(a2 a3:Int)(Q:Int->Bool->Int->AH->Prop)(u0:Option Addr)(I:AH):=
 ∃p1,u0=some p1/\
 ∃u2,qa ro I (p1.add 1)=some (.map u2)/\
 awp prog ro (Instr.range 252 (.map u2)) (fun v I=>
 (∃(p3:Addr),v= .pointer (some p3)/\
  lfpD (uk B ro a0 a1 a2 a3 p3 u0 Q) () I)) I
def yB(B:World)(ro:AH)(a0:Option Addr)(a1:ByteArray)(a2 a3:Int)(I:AH)(Q:Int->Bool->Int->AH->Prop):=
 jB B ro a1 I fun u0 I=>
 if¬(u0=true)then
 Q 0 false 82 I
 else
 abs B ro a2 I fun u1 I=>
 if¬(u1=true)then
 Q 0 false 10 I
 else
 if(a3<1)\/(1048576<a3)then
 Q 0 false 153 I
 else
 ∃p2,a0=some p2/\
 ∃u3,qa ro I p2=some (.map u3)/\
 awp prog ro (Instr.lookup 240 (.map u3) (.string a1) false) (fun v I=>
 (∃(u4:Option Addr),v= .pointer u4/\
  if u4=none then
  nw ro I (.map #[] 0) fun u5 I=>
  nw ro I (.cells #[.int .i64 0,.map (some u5)] 254) fun u6 I=>
  vn B ro a0 a1 a2 a3 Q (some ⟨u6,0,none⟩) I
  else
  vn B ro a0 a1 a2 a3 Q u4 I)) I
theorem acC{a0:Option Addr}{a1:ByteArray}{a2 a3:Int}{Q:Int->Bool->Int->AH->Prop}(h:Sep ro I->yB B ro a0 a1 a2 a3 I Q):ys B ro a0 a1 a2 a3 I Q:=by
 refine zb h func121 ntmps121 fun h=>?_;unfold yB at h;refine z3 ?_;iterate 3 refine zp ?_
 refine z2 (AW.seq (AW.block (z3 ?_)))
 refine zp ?_;refine zc func99 h ?_;rintro v I ⟨u0,rfl,h⟩;iterate 2 refine zp ?_
 refine z2 ?_;refine AW.iff rfl (qt Iff.rfl) h (fun h=>?_) (fun h=>?_)
 .refine z3 ?_;iterate 3 refine zp ?_
  refine z2 ?_;refine AW.ret ?_;refine qQ (qi ?_);exact bR3 results121 rfl rfl rfl ⟨_,_,_,rfl,h⟩
 refine z3 ?_;refine zp ?_;refine zc func178 h ?_;rintro v I ⟨u1,rfl,h⟩;iterate 2 refine zp ?_
 refine z2 ?_;refine AW.iff rfl (qt Iff.rfl) h (fun h=>?_) (fun h=>?_)
 .refine z3 ?_;iterate 3 refine zp ?_
  refine z2 ?_;refine AW.ret ?_;refine qQ (qi ?_);exact bR3 results121 rfl rfl rfl ⟨_,_,_,rfl,h⟩
 refine z3 ?_;iterate 3 refine zp ?_
 refine qX 3 (decide (a3<1)) [(0,.pointer a0),(1,.string a1),(2,.int .i64 a2),(3,.int .i64 a3),(28,.bool ((decide (a3<1)) || (decide (1048576<a3))))] ?_ ?_ ?_
 .intro e2 hk2
  iterate 2 refine zn e2 ?_
  refine zk e2 ?_;exact hk2 _ (Fe e2)
 .intro e2 hk2
  refine zy e2 ?_;refine zy e2 ?_;refine zk e2 ?_;exact hk2 _ (Fe e2)
 intro fr hl
 refine Lfr hl ?_
 refine zp ?_;refine z2 ?_;refine AW.iff rfl (wt decide_eq_true_iff decide_eq_true_iff) h (fun h=>?_) (fun h=>?_)
 .refine z3 ?_;iterate 3 refine zp ?_
  refine z2 ?_;refine AW.ret ?_;refine qQ (qi ?_);exact bR3 results121 rfl rfl rfl ⟨_,_,_,rfl,h⟩
 refine AW.skip ?_;refine wq (qc (z3 ?_));refine zp ?_;refine zN h fun p2 h=>?_;refine zf underlying242 ah0 ?_;refine zL underlying240 h fun u3 h=>?_;refine zp ?_;refine zl (af6 rfl rfl rfl (qv _ h ?_))
 rintro v I ⟨u4,rfl,h⟩;refine zp ?_;refine z2 ?_;refine AW.seqJ (fun fr I=> ∃(u5:Option Addr),qk [(0,.pointer a0),(1,.string a1),(2,.int .i64 a2),(3,.int .i64 a3),(11,.pointer u5)] fr/\vn B ro a0 a1 a2 a3 Q u5 I) ?_ ?_
 rotate_left
 .refine z3 ?_;refine zp ?_;refine zm (af5 rfl underlying255 rfl rfl) ?_;refine z2 ?_;refine AW.iff rfl jr h (fun h=>?_) (fun h=>?_)
  rotate_left
  .refine AW.skip ?_;refine qc ?_;exact⟨_,FL,h⟩
  refine AW.reg ?_;refine zA (aeL rfl) h fun u6 h=>?_;refine zm (wV (vs:=[(1,.map (some u6))]) (cs:= #[.int .i64 0,.map (some u6)]) rfl underlying254 alh alq rfl rfl) ?_;refine zA (vq rfl rfl) h fun u7 h=>?_;refine zp ?_;refine z2 ?_;exact⟨_,FL,h⟩
 rintro fr I ⟨u5,hl,h⟩;refine AW.weaken ?_ hl (HLe.refl _)
 unfold vn at h;refine AW.seqJ (fun fr I=>qk [(0,.pointer a0),(1,.string a1),(2,.int .i64 a2),(3,.int .i64 a3),(11,.pointer u5)] fr/\kN B ro a0 a1 a2 a3 u5 Q I) ?_ ?_
 rotate_left
 .refine z3 ?_;refine zp ?_;refine zN h fun p8 h=>?_;refine zf underlying254 agc ?_;refine zL underlying252 h fun u9 h=>?_;refine zl (ajO rfl rfl (qv _ h ?_))
  rintro v I ⟨p10,rfl,h⟩;refine z2 (AW.block ?_)
  refine qn.loop (fr':=[(0,.pointer a0),(1,.string a1),(2,.int .i64 a2),(3,.int .i64 a3),(11,.pointer u5),(44,.pointer (some p10))]) ?_ FL
  refine h (fun _ I=>qn _ _ _ _ _ _ [(0,.pointer a0),(1,.string a1),(2,.int .i64 a2),(3,.int .i64 a3),(11,.pointer u5),(44,.pointer (some p10))] I) ?_
  rintro _ I Y33 hY33 h
  show AW _ _ _ _ _ _ _ _
  unfold uk at h;refine z3 ?_;refine zl (ajP rfl rfl rfl (qv _ h ?_))
  rintro v I (⟨rfl,h⟩ | ⟨u11,u12,rfl,h⟩)
  .refine zp ?_;refine z2 (AW.seq ?_)
   refine AW.no rfl ?_;refine AW.exit ?_;refine qR (qR ?_);refine wK ?_
   refine qc ?_;exact⟨FL,h⟩
  .refine zp ?_;refine z2 (AW.seq ?_)
   refine AW.yes rfl ?_;refine AW.skip ?_;refine qc (AW.block (z3 ?_));refine zl (ak6 rfl rfl (qv _ h ?_))
   rintro v I ⟨u13,u14,rfl,h⟩;iterate 4 refine zp ?_
   refine z4 ?_;refine zp ?_;refine zN h fun p15 h=>?_;refine zf underlying83 ty3 ?_;refine zL underlying3 h fun u16 h=>?_;iterate 2 refine zp ?_
   refine z2 ?_;refine zi h (fun h=>?_) fun h=>?_
   rotate_left
   .refine AW.skip ?_;refine wq (qc ?_);refine qn.head (fr':=[(0,.pointer a0),(1,.string a1),(2,.int .i64 a2),(3,.int .i64 a3),(11,.pointer u5),(44,.pointer (some p10))]) ?_ FL
    exact hY33 _ _ h
   refine z3 ?_;iterate 4 refine zp ?_
   refine z2 ?_;refine AW.ret ?_;refine qQ (qi (qQ (qi ?_)));exact bR3 results121 rfl rfl rfl ⟨_,_,_,rfl,h⟩
 rintro fr I ⟨hl,h⟩;refine AW.weaken ?_ hl (HLe.refl _)
 unfold kN at h;refine AW.seq (z3 ?_);refine zp ?_;refine zN h fun p17 h=>?_;refine zf underlying254 agc ?_;refine zL underlying252 h fun u18 h=>?_;refine zl (jz (s:=Builtin.len_ #[252] 3 #[.map u18]) rfl rfl (fun _=>rfl) (qv _ h ?_))
 rintro v I ⟨u19,rfl,h⟩;iterate 2 refine zp ?_
 refine qq 6 (decide (64<=u19)) decide_eq_true_iff h (fun fr I=> ∃(u20:Bool),qk [(0,.pointer a0),(1,.string a1),(2,.int .i64 a2),(3,.int .i64 a3),(11,.pointer u5),(69,.bool u20)] fr/\ve B ro a0 a1 a2 a3 u5 Q u20 I) ?_ ?_ ?_
 .intro h e6 hk6;iterate 5 refine zn e6 ?_
  refine zk e6 ?_;exact hk6 _ _ ⟨_,FL,h⟩
 .intro h e6 hk6;refine zy e6 ?_;obtain⟨p21,hc,h⟩:=h
  refine qr (wD rfl (by rw[<-hc];rfl)) rfl rfl rfl rfl e6 ?_
  refine qr (qx rfl underlying254 rfl ty3 (by decide) rfl) rfl rfl rfl rfl e6 ?_
  obtain⟨u22,hc,h⟩:=h
  refine Lyb rfl rfl rfl rfl e6 (qM rfl underlying3 rfl rfl hc ?_)
  refine zy e6 ?_;refine zk e6 ?_;exact hk6 _ _ ⟨_,FL,h⟩
 rintro fr I ⟨u20,hl,h⟩;unfold ve at h;refine Lfr hl ?_
 refine z2 ?_;refine zj h (fun h=>?_) fun h=>?_
 .refine z3 ?_;iterate 3 refine zp ?_
  refine z2 ?_;refine AW.ret ?_;refine qi ?_;exact bR3 results121 rfl rfl rfl ⟨_,_,_,rfl,h⟩
 refine AW.skip ?_;refine qc (z3 ?_);refine zp ?_;refine zN h fun p23 h=>?_;refine zf underlying254 ty3 ?_;refine zL underlying3 h fun u24 h=>?_;refine zp ?_;refine zN h fun p25 h=>?_;refine zf underlying254 ty3 ?_;refine zs ty3 h fun I h=>?_;refine z2 (AW.seq ?_)
 refine AW.drawn0 (fun i=>([0,0,0,3,0,0,0,3,0,0,0,0,3,0,0,0,0,1,2]:List Nat).getD i 2) [] [0,1,2,4,5,6,8,9,10,11,14,15,3,7,12,13,16,17,18] mixed (by decide+kernel) ?_
 refine zq ?_;obtain⟨p26,hc,h⟩:=h
 refine Dp rfl rfl rfl rfl (wD rfl (by rw[<-hc];rfl)) ?_
 refine zg underlying254 agc ?_;refine zq ?_;obtain⟨p27,hc,h⟩:=h
 refine Dp rfl rfl rfl rfl (wD rfl (by rw[<-hc];rfl)) ?_
 refine zg underlying254 ty3 ?_;iterate 2 refine zq ?_
 obtain⟨p28,hc,h⟩:=h
 refine Dp rfl rfl rfl rfl (wD rfl (by rw[<-hc];rfl)) ?_
 refine zg underlying254 ty3 ?_;iterate 2 refine zq ?_
 obtain⟨u29,hc,h⟩:=h
 refine Dr rfl rfl rfl rfl (vb rfl underlying252 rfl rfl hc) ?_
 obtain⟨u30,hc,h⟩:=h
 refine Dr rfl rfl rfl rfl (vb rfl underlying3 rfl rfl hc) ?_
 obtain⟨u31,hc,h⟩:=h
 refine Dr rfl rfl rfl rfl (vb rfl underlying3 rfl rfl hc) ?_
 refine Dp rfl rfl rfl rfl (wV (vs:=[(0,.string a1),(1,.int .i64 u31)]) (cs:= #[.string a1,.int .i64 u31]) rfl underlying81 akA alP rfl rfl) ?_
 refine Dp rfl rfl rfl rfl (wV (vs:=[(0,.agg #[.string a1,.int .i64 u31]),(1,.int .i64 a2),(2,.int .i64 a3)]) (cs:= #[.string a1,.int .i64 u31,.int .i64 a2,.int .i64 a3,.int .i64 0,.int .i64 0,Sl.v (⟨none,0,0⟩:Sl)]) rfl underlying83 alN alQ rfl (by kernel_rfl)) ?_
 refine Da rfl rfl rfl rfl (vq rfl rfl) fun u32 g1 g2=>?_
 replace h:=h u32 g1 g2
 refine Dg rfl rfl rfl rfl (af7 (.inl rfl) rfl rfl rfl (qv _ h ?_))
 rintro _ I h
 refine aat ?_
 refine qc (z3 ?_);refine zp ?_;refine zN h fun p33 h=>?_;refine zf underlying242 ah0 ?_;refine zL underlying240 h fun u34 h=>?_;iterate 2 refine zp ?_
 refine zl (af7 (.inl rfl) rfl rfl rfl (qv _ h ?_))
 rintro _ I h
 refine z4 ?_;refine zp ?_;refine zN h fun p35 h=>?_;refine zf underlying254 ty3 ?_;refine zL underlying3 h fun u36 h=>?_;iterate 3 refine zp ?_
 refine z2 ?_;refine AW.ret ?_;exact bR3 results121 rfl rfl rfl ⟨_,_,_,rfl,h⟩
def uE(B:World)(ro:AH)(a0:Int)(I:AH)(Q:Bool->AH->Prop):=
 Q ((decide (1<=a0)) && (decide (a0<=4611686018427387903))) I
theorem ad5{a0:Int}{Q:Bool->AH->Prop}(h:Sep ro I->uE B ro a0 I Q):abs B ro a0 I Q:=by
 refine zb h func178 ntmps178 fun h=>?_;unfold uE at h;refine z3 ?_;refine zp ?_;refine z4 ?_;iterate 3 refine zp ?_
 refine qX 3 (decide (1<=a0)) [(8,.bool ((decide (1<=a0)) && (decide (a0<=4611686018427387903))))] ?_ ?_ ?_
 .intro e2 hk2
  refine zy e2 ?_;refine zy e2 ?_;refine zk e2 ?_;exact hk2 _ (Fe e2)
 .intro e2 hk2
  iterate 2 refine zn e2 ?_
  refine zk e2 ?_;exact hk2 _ (Fe e2)
 intro fr hl
 refine Lfr hl ?_
 refine zp ?_;refine z2 ?_;refine AW.ret ?_;exact bR1 results178 rfl ⟨_,rfl,h⟩
def acp(B:World)(ro I:AH)(Q:Option Addr->AH->Prop):Prop:=
 nw ro I (.map #[] 0) fun u0 I=>
 nw ro I (.cells #[.map (some u0)] 245) fun u1 I=>
 Q (some ⟨u1,0,none⟩) I
theorem agO{Q:Option Addr->AH->Prop}(h:Sep ro I->acp B ro I Q):aea B ro I Q:=by
 refine zb h func68 ntmps68 fun h=>?_;unfold acp at h;refine z3 ?_;refine zp ?_;refine z4 ?_;refine zA (aeL rfl) h fun u0 h=>?_;refine zm (wV (vs:=[(0,.map (some u0))]) (cs:= #[.map (some u0)]) rfl underlying245 alg alp rfl rfl) ?_;refine zA (vq rfl rfl) h fun u1 h=>?_;refine zp ?_;refine z2 ?_;refine AW.ret ?_;exact bR1 results68 rfl ⟨_,rfl,h⟩
end G
namespace Zt
open Go SL G Pa Wi
variable{B:World}{ro I I':AH}{tag tag':Nat->Nat}
theorem ahq:prog.underlying 240=some (.map 9 255):=by kernel_rfl
theorem aic:prog.underlying 252=some (.map 3 249):=by kernel_rfl
theorem u3':prog.underlying 3=some (.int .i64):=by kernel_rfl
theorem aeX:prog.underlying 55=some (.slice 3):=by kernel_rfl
theorem aid:qp prog 3 (.int .i64 0) 1 8:=qp.of (by kernel_rfl)
theorem alY:qp prog 255 (.pointer none) 1 8:=qp.of (by kernel_rfl)
theorem afL(q:Nat){s:Sl}{l:List Value}{Q:Sl->AH->Prop}(h:SL.qy ro I s l)(hs:SL.Sep ro I)(hl:l.length<=1048576)(hv:∀ v∈l,qg v=true)(hQ:∀ s' tag' I',(∀R,qf R ro tag I tag' I')->Row tag' I' q 3 s' l->Q s' I'):vY B ro s I Q:=by
 refine abO fun _=>?_
 unfold jC
 by_cases h0:s.a=none
 .rw[if_pos h0]
  rw[h.2.1 h0]at hQ
  exact hQ _ tag I (fun _=>qf.refl hs) (Row.nil q 3)
 .rw[if_neg h0]
  refine ql (tag:=tag) q hs fun b tag1 I1 st1 r1=>?_
  have h':SL.qy ro I1 s l:=h.step (st1 [])
  refine xJ r1 (st1 []).sep h' aeX aid rfl hv (by simp;omega) (by decide) fun s' tag2 I2 st2 r2=>?_
  exact⟨s',rfl,hQ s' tag2 I2 (fun R=>(st1 R).trans (st2 R (.inl rfl))) r2⟩
theorem aiO{s:Sl}{Q:Bool->AH->Prop}(h:SL.qy ro I s [vI 0,vI 1,vI 2])(hQ:Q true I):yr B ro s I Q:=by
 refine acB fun _=>?_
 unfold yA
 have hl:(s.len:Int)=3:=by rw[h.1];rfl
 obtain⟨p,hp⟩:∃ p,s.a=some p:=by
  cases e:s.a with
  | none=>have:=h.2.1 e;cases this
  | some p=>exact⟨p,rfl⟩
 have g0:=h.2.2 p hp 0 _ rfl
 have g1:=h.2.2 p hp 1 _ rfl
 have g2:=h.2.2 p hp 2 _ rfl
 refine lfpD.intro ?_
 generalize hY:lfpD (wR B ro s Q)=Y
 unfold wR
 rw[hl,if_pos (by decide)]
 refine⟨p,hp,by decide,by decide,0,g0,?_⟩
 rw[if_neg (by decide),if_neg (by decide)]
 unfold wQ wP
 rw[if_neg (by decide),show i64.wrap (0+1)=1 from rfl,<-hY]
 refine lfpD.intro ?_
 rw[hY]
 unfold wR
 rw[hl,if_pos (by decide)]
 refine⟨p,hp,by decide,by decide,1,g1,?_⟩
 rw[if_neg (by decide),if_pos (by decide)]
 refine⟨p,hp,by decide,by decide,0,g0,?_⟩
 unfold wQ wP
 rw[if_neg (by decide),show i64.wrap (1+1)=2 from rfl,<-hY]
 refine lfpD.intro ?_
 rw[hY]
 unfold wR
 rw[hl,if_pos (by decide)]
 refine⟨p,hp,by decide,by decide,2,g2,?_⟩
 rw[if_neg (by decide),if_pos (by decide)]
 refine⟨p,hp,by decide,by decide,1,g1,?_⟩
 unfold wQ wP
 rw[if_neg (by decide),show i64.wrap (2+1)=3 from rfl,<-hY]
 refine lfpD.intro ?_
 rw[hY]
 unfold wR
 rw[hl,if_neg (by decide)]
 unfold kM
 rw[hl]
 exact hQ
theorem ajr{T M:Nat}{Q:Int->Bool->Int->AH->Prop}(hc:Row tag I 55 242 ⟨some ⟨T,0,none⟩,1,1⟩ [.map (some M)])(hm:px kS tag I 119 M [])
  (hQ:∀ tag' I',qd [0,55,56,57,58] ro tag I tag' I'->Q 1 true 0 I'):ys B ro (some ⟨T,0,none⟩) ⟨#[97]⟩ 5 100 I Q:=by
 refine acC fun hs=>?_
 unfold yB
 refine adV ?_
 rw[show wU (L ⟨#[97]⟩)=true from by decide,if_neg (by simp)]
 refine ad5 fun _=>?_
 unfold uE
 show(if¬(((decide ((1:Int)<=5)) && (decide ((5:Int)<=4611686018427387903)))=true)then _ else _)
 rw[if_neg (by decide),if_neg (by decide)]
 refine⟨_,rfl,some M,hc.cell1 hs,?_⟩
 refine agV (k:=[97]) hm hs ahq (akO u9) alY ?_
 refine⟨none,rfl,?_⟩
 rw[if_pos rfl]
 refine afg kI (tag:=tag) 57 hs fun m tag1 I1 st1 m1=>?_
 refine ql (tag:=tag1) 56 (st1 []).sep fun H tag2 I2 st2 r2=>?_
 have m2:=m1.keep (st2 [])
 have hs2:=(st2 []).sep
 unfold vn
 refine⟨_,rfl,some m,(r2.read hs2).2.2 _ rfl 1 _ rfl,?_⟩
 refine afh aic m2 hs2 fun es clock x hb he hbn hro hx=>?_
 have st3:∀ R,qf R ro tag2 I2 (setTag tag2 x 0) (upd I2 x (.mapIter (some m) clock #[] clock)):=fun R=>qf.fresh hs2 hro hx
 refine⟨_,rfl,?_⟩
 refine lfpD.intro ?_
 show awp prog ro (Instr.next (.pointer (some ⟨x,0,none⟩)) false 0) _ _
 refine agu (we _ _ _) ((st3 []).keep m _ hb (by simp)).2 (st3 []).sep hbn (fun _=>?_) (fun e hes _=>?_)
 rotate_left
 .have:es.toList=[]:=by simpa using he
  rw[this]at hes;cases hes
 refine .inl ⟨rfl,?_⟩
 generalize (upd I2 x (.mapIter (some m) clock #[] clock))=I3 at st3⊢
 generalize (setTag tag2 x 0)=tag3 at st3
 have hs3:=(st3 []).sep
 have r3:=r2.keep (st3 [])
 have m3:=m2.keep (st3 [])
 unfold kN
 refine⟨_,rfl,some m,(r3.read hs3).2.2 _ rfl 1 _ rfl,?_⟩
 refine ajf m3 hs3 aic ?_
 refine⟨0,rfl,?_⟩
 rw[if_neg (by decide)]
 refine⟨_,rfl,0,(r3.read hs3).2.2 _ rfl 0 _ rfl,?_⟩
 unfold ve
 rw[if_neg (by decide)]
 refine⟨_,rfl,0,(r3.read hs3).2.2 _ rfl 0 _ rfl,_,rfl,?_⟩
 refine r3.stPre [.int .i64 (i64.wrap (0+1))] 0 _ I3 hs3 (by simp) (by simp[qg]) fun I4 st4 r4=>?_
 have hs4:=st4.sep
 have m4:=m3.keep st4
 refine⟨_,rfl,_,rfl,_,rfl,some m,(r4.read hs4).2.2 _ rfl 1 _ rfl,_,(r4.read hs4).2.2 _ rfl 0 _ rfl,_,(r4.read hs4).2.2 _ rfl 0 _ rfl,?_⟩
 refine ql (tag:=tag3) 58 hs4 fun Z tag5 I5 st5 r5=>?_
 refine aee (k:=i64.wrap (0+1)) (m4.keep (st5 [])) (st5 []).sep aic (alX u3') fun I6 st6 m6=>?_
 have hc6:Row tag5 I6 55 242 ⟨some ⟨T,0,none⟩,1,1⟩ [.map (some M)]:=(((((hc.keep (st1 [])).keep (st2 [])).keep (st3 [])).keep st4).keep (st5 [])).keep st6
 have hm6:px kS tag5 I6 119 M []:=(((((hm.keep (st1 [])).keep (st2 [])).keep (st3 [])).keep st4).keep (st5 [])).keep st6
 have r6:=(r4.keep (st5 [])).keep st6
 refine⟨_,rfl,some M,hc6.cell1 st6.sep,?_⟩
 refine aee (k:=[97]) hm6 st6.sep ahq (akO u9) fun I7 st7 m7=>?_
 have r7:=r6.keep st7
 refine⟨_,rfl,_,(r7.read st7.sep).2.2 _ rfl 0 _ rfl,?_⟩
 refine hQ tag5 I7 ?_
 refine(((st1 []).trans (st2 [])).trans (st3 [])).s (by simp) |>.trans ((st4.s (by simp)).trans (((st5 []).s (by simp)).trans ((st6.s (by simp)).trans (st7.s (by simp)))))
abbrev nS:Sl:=⟨none,0,0⟩
theorem wX{s:Sl}{l:List Value}{p:Addr}(h:SL.qy ro I s l)(hp:s.a=some p):SL.qj ro I p 0 l:=wr 0 fun j v hv=>by rw[Nat.zero_add];exact h.2.2 p hp j v hv
structure abY(tag:Nat->Nat)(I:AH)(W T Tt M:Nat)(ms:Sl)(Th:Nat):Prop where
 own:Row tag I 54 153 ⟨some ⟨W,0,none⟩,5,5⟩ [vI 0,Sl.v ms,ptr T,ptr Tt,ptr Th]
 mem:Row tag I 118 3 ms [vI 0,vI 1,vI 2]
 tree:uh tag I 10 T St.new
 tbl:Row tag I 55 242 ⟨some ⟨Tt,0,none⟩,1,1⟩ [.map (some M)]
 map:px kS tag I 119 M []
abbrev CN:List Nat:=[0,10,54,55,62]
theorem ag2{s:Sl}{Q:Option Addr->Int->AH->Prop}(h:SL.qy ro I s [vI 0,vI 1,vI 2])
  (hQ:∀ W T Tt M ms Th tag' I',qd CN ro tag I tag' I'->abY tag' I' W T Tt M ms Th->Q (some ⟨W,0,none⟩) 0 I'):ab7 B ro s I Q:=by
 refine agN fun hs=>?_
 unfold aco
 refine aiO h ?_
 rw[if_neg (by simp)]
 refine afL (tag:=tag) 118 h hs (by decide) (by simp[qg]) fun ms tag1 I1 st1 r1=>?_
 refine akI (tag:=tag1) 10 (by decide) (by decide) fun T tag2 I2 st2 t2=>?_
 refine afr fun hs2=>?_
 unfold aba
 refine afg kS (tag:=tag2) 119 hs2 fun M tag3 I3 st3 m3=>?_
 refine ql (tag:=tag3) 55 (st3 []).sep fun Tt tag4 I4 st4 r4=>?_
 refine agO fun hs4=>?_
 unfold acp
 refine afg kSI (tag:=tag4) 126 hs4 fun Mh tag5 I5 st5 m5=>?_
 refine ql (tag:=tag5) 62 (st5 []).sep fun Th tag6 I6 st6 r6=>?_
 refine ql (tag:=tag6) 54 (st6 []).sep fun W tag7 I7 st7 r7=>?_
 have k6:qf [] ro tag4 I4 tag7 I7:=((st5 []).trans (st6 [])).trans (st7 [])
 have k3:qf [] ro tag3 I3 tag7 I7:=(st4 []).trans k6
 have k2:qf [] ro tag2 I2 tag7 I7:=(st3 []).trans k3
 refine hQ W T Tt M ms Th tag7 I7 (((st1 []).s (by simp)).trans ((st2.s (by simp)).trans (k2.s (by simp)))) ⟨r7,?_,t2.keep k2,r4.keep k6,m3.keep k3⟩
 exact(r1.keepC st2).keep k2
theorem abY.keepS{C:List Nat}{W T Tt M Th:Nat}{ms:Sl}(h:abY tag I W T Tt M ms Th)(k:qd C ro tag I tag' I')(hC:54∉C/\55∉C/\10∉C/\6∉C:=by decide):abY tag' I' W T Tt M ms Th:=
 ⟨h.own.keepS k hC.1,h.mem.keepS k hC.1,h.tree.keepS k hC.2.2.1 hC.2.2.2,h.tbl.keepS k hC.2.1,h.map.keepS k hC.2.1⟩
abbrev CA1:List Nat:=[0,2,3,4,5,10,55,56,57,58]
abbrev aey:List Value:=[.int .i64 0,.int .i64 1,Sl.v nS,.int .i64 0,Sl.v nS,.int .i64 0,.int .i64 0,.int .i64 0,.int .i64 0,Sl.v nS,Sl.v nS,.int .i64 0]
theorem ajs:∀ v∈aey,qg v=true:=by decide
theorem ajt{W T Tt M Th:Nat}{ms:Sl}{Q:Int->Int->Sl->Int->Sl->Int->Int->Int->Int->Sl->Sl->Int->AH->Prop}(g:yT ro)(h:abY tag I W T Tt M ms Th)
  (hQ:∀ tag' I',qd CA1 ro tag I tag' I'->Q 0 1 nS 0 nS 0 0 0 0 nS nS 0 I'):pu B ro (some ⟨W,0,none⟩) 1 ⟨#[97]⟩ 0 0 5 100 0 0 nS ByteArray.empty false 0 nS I Q:=by
 refine adk fun hs=>?_
 unfold pG
 refine ql (tag:=tag) 3 hs fun X tag1 I1 st1 r1=>?_
 refine ql (tag:=tag1) 2 (st1 []).sep fun Y tag2 I2 st2 r2=>?_
 have k2:qd CA1 ro tag I tag2 I2:=((st1 []).trans (st2 [])).s (by simp)
 have h2:abY tag2 I2 W T Tt M ms Th:=h.keepS (C:=[]) (((st1 []).trans (st2 [])).s (by simp)) (by simp)
 have c2:=r1.keep (st2 [])
 have hs2:=(st2 []).sep
 refine⟨⟨#[97]⟩,(c2.read hs2).2.2 _ rfl 1 _ rfl,by decide,_,rfl,some ⟨T,0,none⟩,(h2.own.read hs2).2.2 _ rfl 2 _ rfl,?_⟩
 have hL:L ((⟨#[47]⟩:ByteArray)++⟨#[97]⟩)=[47,97]:=by decide
 obtain⟨MT,bsT,hT⟩:=h2.tree
 refine akK (r:=10) g (by decide) (by decide) (by decide) hT (fun p n hp=>?_) (fun hp=>?_) (fun ps hp hl tag3 I3 st3=>?_) (fun n hn=>?_)
 .simp only[St.new,List.lookup]at hp
  split at hp
  .cases hp;simp
  .cases hp
 .rw[hL]at hp;exact absurd hp (by decide)
 rotate_left
 .rw[hL,show St.new.lookup [47,97]=none by decide]at hn;cases hn
 have h3:=h2.keepS (st3.s (C:=[0]) (by simp))
 have c3:=c2.keepC st3
 have y3:=r2.keepC st3
 refine ql (tag:=tag3) 5 st3.sep fun Z tag4 I4 st4 r4=>?_
 refine r4.stPre _ 0 _ I4 (st4 []).sep (by simp) (by simp[qg]) fun I5 st5 r5=>?_
 have k5:qf [5] ro tag3 I3 tag4 I5:=(st4 [5]).trans st5
 have h5:=h3.keepS (k5.s (C:=[5]) (by simp))
 have c5:=c3.keep k5
 have y5:=y3.keep k5
 have hs5:=st5.sep
 refine⟨⟨#[97]⟩,(c5.read hs5).2.2 _ rfl 1 _ rfl,?_⟩
 refine adV ?_
 refine⟨_,rfl,some ⟨Tt,0,none⟩,(h5.own.read hs5).2.2 _ rfl 3 _ rfl,⟨#[97]⟩,(c5.read hs5).2.2 _ rfl 1 _ rfl,5,(c5.read hs5).2.2 _ rfl 4 _ rfl,100,(c5.read hs5).2.2 _ rfl 5 _ rfl,?_⟩
 refine ajr h5.tbl h5.map fun tag6 I6 st6=>?_
 rw[if_neg (by simp),if_pos ⟨by decide,rfl⟩]
 have o6:=h5.own.keepS st6
 have t6:=h5.tree.keepS st6
 refine⟨_,rfl,some ⟨T,0,none⟩,(o6.read st6.sep).2.2 _ rfl 2 _ rfl,?_⟩
 refine aiB (r:=10) (d:=[]) g (by decide) (by decide) (by decide) t6 ⟨rfl,fun _=>rfl,fun p hp=>by cases hp⟩ (by decide) fun tag7 I7 st7 t7=>?_
 unfold vu
 have y7:=(y5.keepS st6).keepC st7
 refine y7.stPre aey 0 _ I7 st7.sep (by decide) ajs fun I8 st8 y8=>?_
 have y9:Row tag7 I8 2 _ ⟨some ⟨Y,0,none⟩,12,12⟩ aey:=y8
 refine⟨_,_,_,_,_,_,_,_,_,_,_,_,wX (y9.read st8.sep) rfl,?_⟩
 exact hQ tag7 I8 (k2.trans ((st3.s (by simp)).trans ((k5.s (by simp)).trans ((st6.mono (by decide)).trans ((st7.s (by simp)).trans (st8.s (by simp)))))))
abbrev CB:List Nat:=[0,2,3,4,5,10,12,55,56,57,58]
theorem aiP{W T Tt M Th:Nat}{ms:Sl}{Q:Int->Int->Sl->Int->Sl->Int->Int->Int->Int->Sl->Sl->Int->AH->Prop}(g:yT ro)(h:abY tag I W T Tt M ms Th)
  (hQ:∀ tag' I',qd CB ro tag I tag' I'->Q 0 1 nS 0 nS 0 0 0 0 nS nS 0 I'):yP B ro (some ⟨W,0,none⟩) 1 ⟨#[97]⟩ 0 0 5 100 0 0 nS ByteArray.empty false 0 nS I Q:=by
 refine ac7 fun hs=>?_
 unfold pb
 refine ql (tag:=tag) 4 hs fun X tag1 I1 st1 r1=>?_
 refine ql (tag:=tag1) 12 (st1 []).sep fun Y tag2 I2 st2 r2=>?_
 have k2:qf [] ro tag I tag2 I2:=(st1 []).trans (st2 [])
 have h2:abY tag2 I2 W T Tt M ms Th:=h.keepS (C:=[]) (k2.s (by simp)) (by simp)
 have c2:=r1.keep (st2 [])
 have hs2:=(st2 []).sep
 refine⟨1,(c2.read hs2).2.2 _ rfl 0 _ rfl,?_⟩
 rw[if_pos rfl]
 refine⟨_,_,_,_,_,_,_,_,_,_,_,_,_,wX (c2.read hs2) rfl,?_⟩
 refine ajt g h2 fun tag3 I3 st3=>?_
 have y3:=r2.keepS st3
 refine y3.stPre aey 0 _ I3 st3.sep (by simp) ajs fun I4 st4 y4=>?_
 have y5:Row tag3 I4 12 _ ⟨some ⟨Y,0,none⟩,12,12⟩ aey:=y4
 refine⟨_,_,_,_,_,_,_,_,_,_,_,_,wX (y5.read st4.sep) rfl,?_⟩
 exact hQ tag3 I4 ((k2.s (by simp)).trans ((st3.mono (by decide)).trans (st4.s (by simp))))
end Zt
namespace SL
open Go
variable{ro I I':AH}{tag tag':Nat->Nat}{L:List Nat}
end SL
namespace Zt
open Go SL G Pa Wi
variable{B:World}{ro I I':AH}{tag tag':Nat->Nat}
theorem pH{C:List Nat}(h:∀ R,qf R ro tag I tag' I'):qd C ro tag I tag' I':=(h []).s (by simp)
end Zt
namespace Zt
open Go SL Pa Wi
def yD(o:MOp):Prop:=1<=o.kind/\o.kind<=4/\ -1<=o.ver/\o.ver<4611686018427387903
instance (o:MOp):Decidable (yD o):=by unfold yD;infer_instance
def flagN(o:MOp):Nat:=(if o.eph then 1 else 0)+(if o.seq then 2 else 0)
def vv(o:MOp):Str:=qC o.kind.toNat++(wT o.path++(wT o.data++(qC (o.ver+1).toNat++qC (flagN o))))
def adK(l:List MOp):Str:=qC l.length++l.flatMap vv
def yE(l:List MOp):Option Str:=if 16<l.length then none else if∀o∈l,yD o then some (adK l)else none
def rop(r:Rd):(MOp×Nat)×Rd:=
 let a:=qo r
 let b:=qO a.2
 let c:=qO b.2
 let d:=qo c.2
 let e:=qo d.2
 ((⟨a.1,b.1,c.1,(d.1:Int) - 1,decide (e.1%2=1),decide (1<e.1)⟩,e.1),e.2)
def jJ(x:(MOp×Nat)×Rd):Prop:=x.2.err≠0\/x.1.1.kind<1\/4<x.1.1.kind\/3<x.1.2
instance (x:(MOp×Nat)×Rd):Decidable (jJ x):=by unfold jJ;infer_instance
def jj:Nat->Rd->Option (List MOp×Rd)
 | 0,r=>some ([],r)
 | n+1,r=>if jJ (rop r)then none else match jj n (rop r).2 with
  | none=>none
  | some (l,r')=>some ((rop r).1.1::l,r')
def jE(b:Str):Option (List MOp):=
 let h:=qo ⟨b,0⟩
 if h.2.err≠0\/16<h.1 then none
 else match jj h.1 h.2 with
  | none=>none
  | some (l,r)=>if r.rest=[]then some l else none
theorem abL(o:MOp):flagN o<=3:=by unfold flagN;split<;>split<;>decide
theorem akj{o:MOp}(h:yD o)(h1:o.path.length<4611686018427387904)(h2:o.data.length<4611686018427387904)(r:Str):rop ⟨vv o++r,0⟩=((o,flagN o),⟨r,0⟩):=by
 obtain⟨k1,k2,v1,v2⟩:=h
 have hf:=abL o
 unfold rop vv
 simp only[List.append_assoc]
 rw[zT (by omega),aaS h1,aaS h2,zT (by omega),zT (by omega)]
 have e1:((o.kind.toNat:Nat):Int)=o.kind:=by omega
 have e2:(((o.ver+1).toNat:Nat):Int) - 1=o.ver:=by omega
 simp only[e1,e2]
 obtain⟨k,p,d,v,e,s⟩:=o
 unfold flagN
 cases e<;>cases s<;>simp
theorem aju:∀ (l:List MOp) (r:Str),(∀o∈l,yD o/\o.path.length<4611686018427387904/\o.data.length<4611686018427387904)->jj l.length ⟨l.flatMap vv++r,0⟩=some (l,⟨r,0⟩):=by
 intro l
 induction l with
 | nil=>intro r _;rfl
 | cons o l ih=>
  intro r h
  obtain⟨h1,h2,h3⟩:=h o (by simp)
  have e:=akj h1 h2 h3 (l.flatMap vv++r)
  rw[List.flatMap_cons,List.append_assoc,List.length_cons]
  unfold jj
  rw[e,ih r fun x hx=>h x (by simp[hx])]
  have hf:=abL o
  rw[if_neg]
  obtain⟨k1,k2,_,_⟩:=h1
  unfold jJ
  simp only[not_or]
  exact⟨by simp,by omega,by omega,by omega⟩
theorem ajv{l:List MOp}{b:Str}(h:yE l=some b)(hs:∀ o∈l,o.path.length<4611686018427387904/\o.data.length<4611686018427387904):jE b=some l:=by
 unfold yE at h
 split at h
 .cases h
 rename_i hl
 split at h
 .rename_i hok
  cases h
  unfold jE adK
  rw[zT (by omega)]
  simp only
  rw[if_neg (by simp;omega)]
  have:=aju l [] fun o ho=>⟨hok o ho,hs o ho⟩
  rw[List.append_nil]at this
  rw[this]
  simp
 .cases h
theorem akk{a:Str}{n:Int}(h:0<=n)(h2:n<=4611686018427387903):qK n=true:=by
 unfold qK;simp;omega
end Zt
namespace Zt
open Go SL G Pa Wi
theorem ahr(r:Rd):(qo r).1<4611686018427387904:=by
 unfold qo
 split
 .simp
 .exact(agy _).2
end Zt
namespace Zt
open Go SL G Pa Wi
variable{B:World}{ro I I':AH}{tag tag':Nat->Nat}
def Dat(ro:AH)(tag:Nat->Nat)(I:AH)(d:Sl)(l:Str):Prop:=SL.qy ro (fun _=>none) d (l.map vU)\/vg tag I 6 d (l.map vU)
theorem Dat.read{d:Sl}{l:Str}(h:Dat ro tag I d l)(hs:SL.Sep ro I):SL.qy ro I d (l.map vU):=by
 rcases h with h | h
 .exact h.keep
 .exact h.read hs
theorem Dat.keepS{C:List Nat}{d:Sl}{l:Str}(h:Dat ro tag I d l)(k:qd C ro tag I tag' I')(h6:6∉C:=by decide):Dat ro tag' I' d l:=by
 rcases h with h | h
 .exact .inl h
 .exact .inr (h.keepS k h6)
theorem Dat.len{d:Sl}{l:Str}(h:Dat ro tag I d l):d.len=l.length:=by
 rcases h with h | h
 .rw[h.1,List.length_map]
 .rw[h.1,List.length_map]
theorem Dat.lent{d:Sl}{l:Str}{b:Nat}(h:Dat ro tag I d l)(hb:tag b≠6):Dat (join ro (SL.one I b)) tag (SL.del I b) d l:=by
 rcases h with h | h
 .refine .inl ⟨h.1,h.2.1,fun p hp i v hv=>ac4 (h.2.2 p hp i v hv)⟩
 .exact .inr (h.del hb)
def aai(ro:AH)(tag:Nat->Nat)(I:AH)(s:Sl)(ops:List MOp):Prop:=s.len=ops.length/\∀ j o,ops[j]?=some o->∃ q d,s.a=some q/\SL.qj ro I (q.add (j*6)) 0 (opV o d)/\Dat ro tag I d o.data
def qY(ro:AH)(tag:Nat->Nat)(I:AH)(q:Nat)(s:Sl)(ops:List MOp):Prop:= ∃ds:List Sl,ds.length=ops.length/\wj tag I q 276 6 s (List.zipWith opV ops ds)/\∀ (i:Nat) (o:MOp) (d:Sl),ops[i]?=some o->ds[i]?=some d->Dat ro tag I d o.data
theorem qY.keepS{C:List Nat}{q:Nat}{s:Sl}{ops:List MOp}(h:qY ro tag I q s ops)(k:qd C ro tag I tag' I')(hq:q%64∉C:=by decide)(h6:6∉C:=by decide):qY ro tag' I' q s ops:=by
 obtain⟨ds,h1,h2,h3⟩:=h
 exact⟨ds,h1,wj.keepS h2 k hq,fun i o d ho hd=>(h3 i o d ho hd).keepS k h6⟩
def ajw(ro1 ro:AH)(tag:Nat->Nat)(I:AH)(s:Sl)(ops:List MOp):Prop:=s.len=ops.length/\∀ j o,ops[j]?=some o->∃ q d,s.a=some q/\SL.qj ro I (q.add (j*6)) 0 (opV o d)/\Dat ro1 tag I d o.data
theorem ajY{ro1:AH}{q e:Nat}{s:Sl}{ops:List MOp}{ds:List Sl}(h1:ds.length=ops.length)(h2:wj tag I q e 6 s (List.zipWith opV ops ds))(h3:∀ (i:Nat) (o:MOp) (d:Sl),ops[i]?=some o->ds[i]?=some d->Dat ro1 tag I d o.data)(hs:SL.Sep ro I):ajw ro1 ro tag I s ops:=by
 have hl:=h2.len
 rw[List.length_zipWith,h1,Nat.min_self]at hl
 refine⟨hl,fun j o ho=>?_⟩
 have hjl:j<ops.length:=by
  rcases Nat.lt_or_ge j ops.length with h | h
  .exact h
  .rw[List.getElem?_eq_none h]at ho;cases ho
 have hd:ds[j]?=some ds[j]:=List.getElem?_eq_getElem (by omega)
 obtain⟨b,ha,_,hc⟩:=wj.get h2 hs (j:=j) (x:=opV o ds[j]) (by rw[List.getElem?_zipWith,ho,hd])
 refine⟨_,ds[j],ha,wr 0 fun i v hv=>?_,h3 j o _ ho hd⟩
 rw[Nat.zero_add,wN,wN,Nat.zero_add]
 exact hc i v hv
theorem ajZ{q e:Nat}{s:Sl}{ops:List MOp}{ds:List Sl}(h1:ds.length=ops.length)(h2:wj tag I q e 6 s (List.zipWith opV ops ds))(h3:∀ (i:Nat) (o:MOp) (d:Sl),ops[i]?=some o->ds[i]?=some d->Dat ro tag I d o.data)(hs:SL.Sep ro I):aai ro tag I s ops:=ajY h1 h2 h3 hs
theorem qY.d{q:Nat}{s:Sl}{ops:List MOp}(h:qY ro tag I q s ops)(hs:SL.Sep ro I):aai ro tag I s ops:=by
 obtain⟨ds,h1,h2,h3⟩:=h
 exact ajZ h1 h2 h3 hs
theorem wW.d{q:Nat}{s:Sl}{ops:List MOp}(h:wW tag I q s ops)(hs:SL.Sep ro I):aai ro tag I s ops:=by
 obtain⟨ds,h1,h2,h3⟩:=h
 exact ajZ h1 h2 (fun i o d ho hd=> .inr (h3 i o d ho hd)) hs
theorem Dat.keepN{ro1:AH}{C:List Nat}{d:Sl}{l:Str}(h:Dat ro1 tag I d l)(k:qd C ro tag I tag' I')(h6:6∉C):Dat ro1 tag' I' d l:=by
 rcases h with h | h
 .exact .inl h
 .exact .inr (h.keepS k h6)
theorem qY.keepN{ro1:AH}{C:List Nat}{q:Nat}{s:Sl}{ops:List MOp}(h:qY ro1 tag I q s ops)(k:qd C ro tag I tag' I')(hq:q%64∉C)(h6:6∉C):qY ro1 tag' I' q s ops:=by
 obtain⟨ds,h1,h2,h3⟩:=h
 exact⟨ds,h1,wj.keepS h2 k hq,fun i o d ho hd=>(h3 i o d ho hd).keepN k h6⟩
theorem Dat.ofN{d:Sl}{l:Str}(h:Dat (fun _=>none) tag I d l):Dat ro tag I d l:=by
 rcases h with h | h
 .refine .inl ⟨h.1,h.2.1,fun p hp i v hv=>?_⟩
  have:=h.2.2 p hp i v hv
  simp[qa,rd,wM]at this
 .exact .inr h
theorem qY.ofN{q:Nat}{s:Sl}{ops:List MOp}(h:qY (fun _=>none) tag I q s ops):qY ro tag I q s ops:=by
 obtain⟨ds,h1,h2,h3⟩:=h
 exact⟨ds,h1,h2,fun i o d ho hd=>(h3 i o d ho hd).ofN⟩