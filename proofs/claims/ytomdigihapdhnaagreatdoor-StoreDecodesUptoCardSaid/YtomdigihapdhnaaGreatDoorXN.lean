import Derived.Test.YtomdigihapdhnaaGreatDoorXM
set_option linter.all false
set_option maxRecDepth 99999
set_option maxHeartbeats 0
open Go.IntKind(i64)
open Go.Proofs.Tryz
namespace Go.Proofs.YtomdigihapdhnaaGreatDoor
namespace Zt
open Go SL G Pa Wi
variable{B:World}[Zd B]{ro I I':AH}{tag tag':Nat->Nat}
variable{Q:Bool->AH->Prop}{a0:Sl}{b:Str}
theorem rt15_base(hr:SL.qU ro (fun _=>none) a0 (b.map vU))(hc:a0.len<=a0.cap)(hl:b.length<=140737488355328)(hs:SL.Sep ro I)(hQ:∀ I',Q (aea b) I'):aaw B ro a0 I Q:=by
 refine akz fun _=>?_
 unfold aew
 refine qr (tag:=T7) 29 hs fun X tag1 I1 st1 x1=>?_
 have rd1:vq tag1 I1 29 X a0 b ⟨b,0⟩:=⟨0,Nat.zero_le _,z7,x1⟩
 refine rdnum_ok rd1 hr hl fun I2 k2 rd2=>?_
 have er:aea b=match adh (qa ⟨b,0⟩).1 (qa ⟨b,0⟩).2 []with
  | none=>false
  | some r=>decide (r.err=0) && decide (r.rest.length=0):=rfl
 have hb:=km ⟨b,0⟩
 have bad:adh (qa ⟨b,0⟩).1 (qa ⟨b,0⟩).2 []=none->∀ I',Q false I':=fun e I'=>by
  have:=hQ I'
  rw[er,e]at this
  exact this
 suffices∀k i xr (before:Str) tag1 I1,i+k=(qa ⟨b,0⟩).1->adh k xr before=adh (qa ⟨b,0⟩).1 (qa ⟨b,0⟩).2 []->SL.Sep ro I1->vq tag1 I1 29 X a0 b xr->lfpD (yR B ro X ((qa ⟨b,0⟩).1:Nat) Q) (S before,(i:Int)) I1 from
  this _ 0 _ [] tag1 I2 (mp _) rfl k2.sep rd2
 intro k
 induction k with
 | zero=>
  intro i xr before tag1 I1 hi hx hs1 rd
  refine lfpD.intro ?_
  unfold yR
  simp only
  rw[mc z6]
  unfold abP
  have e:aea b=(decide (xr.err=0) && decide (xr.rest.length=0)):=by rw[er,<-hx];try rfl
  refine⟨xr.err,rd.err hs1,?_⟩
  by_cases c:xr.err=0
  .rw[me c]
   refine aed rd hr hl ?_
   unfold yQ
   have:decide (((xr.rest.length:Nat):Int)=0)=aea b:=by
    rw[e,mF c,Bool.true_and]
    exact Lh.2 z6
   rw[this]
   exact hQ _
  .rw[mc c]
   unfold yQ
   have:false=aea b:=by rw[e,mL c];try rfl
   rw[this]
   exact hQ _
 | succ k ih=>
  intro i xr before tag1 I1 hi hx hs1 rd
  rw[adh]at hx
  refine lfpD.intro ?_
  generalize hY:lfpD (yR B ro X ((qa ⟨b,0⟩).1:Nat) Q)=Y0 at ih⊢
  unfold yR
  simp only
  rw[me z6]
  refine jL z8 rd hr hc hl fun d tag2 I2 k2 rd2 d2=>?_
  refine abO (d2.read k2.sep) ⟨_,rfl,?_⟩
  refine rdnum_ok rd2 hr hl fun I3 k3 rd3=>?_
  refine rdnum_ok rd3 hr hl fun I4 k4 rd4=>?_
  generalize (rblob xr).1=home at hx⊢
  generalize (qa (rblob xr).2).1=last at hx⊢
  have hn:=km (qa (rblob xr).2).2
  generalize (qa (qa (rblob xr).2).2).1=n at hx hn⊢
  generalize (qa (qa (rblob xr).2).2).2=x4 at hx rd4⊢
  have hs4:=k4.sep
  clear rd rd2 rd3 k2 k3 k4 d2
  refine⟨_,rd4.err hs4,?_⟩
  by_cases c1:¬ x4.err=0
  .rw[me c1]
   unfold jT
   rw[me (.inl (.inl (.inl rfl)))]
   rw[me (.inl c1)]at hx
   exact bad hx.symm _
  rw[mc c1]
  refine aiX ?_
  rw[L_S]
  unfold jT
  have hle:(zD (S home) (S before)=true\/S home=S before)↔home<=before:=by have:=uG (S home) (S before);rwa [L_S,L_S]at this
  by_cases c2:qV home=false\/¬ before<home\/last<1\/64<n
  .rw[me (.inr c2)]at hx
   rw[me (by
    rcases c2 with h | h | h | h
    .exact .inl (.inl (.inl (by rw[h];try rfl)))
    .exact .inl (.inl (.inr (hle.2 (List.not_lt.1 h))))
    .exact .inl (.inr z6)
    .exact .inr z6)]
   exact bad hx.symm _
  rw[mc (by rintro(h | h);exact c1 h;exact c2 h)]at hx
  rw[not_or,not_or,not_or]at c2
  obtain⟨c2,c3,c4,c5⟩:=c2
  have c2:qV home=true:=by simpa using c2
  have c3:=mE.1 c3
  rw[mc (by
   rw[c2]
   rintro(((h | h) | h) | h)
   .cases h
   .exact List.not_lt.2 (hle.1 h) c3
   .omega
   .omega)]
  suffices∀c j xs (at':Int) ns sl tag5 I5,j+c=n->adV last c xs at' ns=adV last n x4 0 []->SL.Sep ro I5->vq tag5 I5 29 X a0 b xs->Row tag5 I5 18 3 sl (ns.map vI)->ns.length=j->
    lfpD (jS B ro (i:Int) X ((qa ⟨b,0⟩).1:Nat) (S home) (last:Nat) (n:Nat) Q Y0) (at',sl,(j:Int)) I5 from
   this n 0 x4 0 [] ⟨none,0,0⟩ tag2 I4 (mp _) rfl hs4 rd4 (Row.nil _ _) rfl
  intro c
  induction c with
  | zero=>
   intro j xs at' ns sl tag5 I5 hj hd hs5 rd5 r5 hnl
   refine lfpD.intro ?_
   unfold jS
   simp only
   rw[mc z6]
   unfold abc
   rw[Pa.inc i z6]
   rw[<-hd]at hx
   exact ih (i+1) xs home tag5 I5 z6 hx hs5 rd5
  | succ c ih'=>
   intro j xs at' ns sl tag5 I5 hj hd hs5 rd5 r5 hnl
   rw[adV]at hd
   refine lfpD.intro ?_
   generalize hZ:lfpD (jS B ro (i:Int) X ((qa ⟨b,0⟩).1:Nat) (S home) (last:Nat) (n:Nat) Q Y0)=Z0 at ih'⊢
   unfold jS
   simp only
   rw[me z6]
   refine rdnum_ok rd5 hr hl fun I6 k6 rd6=>?_
   refine rdnum_ok rd6 hr hl fun I7 k7 rd7=>?_
   refine rdnum_ok rd7 hr hl fun I8 k8 rd8=>?_
   refine rdnum_ok rd8 hr hl fun I9 k9 rd9=>?_
   refine rdnum_ok rd9 hr hl fun Ia ka rda=>?_
   refine jL z8 rda hr hc hl fun d tagb Ib kb rdb db=>?_
   have kall:qd [29] ro tag5 I5 tagb Ib:=((((k6.trans k7).trans k8).trans k9).trans ka).trans kb
   have hxx:(rsess xs).2=(rblob (qa (qa (qa (qa (qa xs).2).2).2).2).2).2:=rfl
   have hp:(rsess xs).1=(((qa xs).1:Int),⟨((qa (qa xs).2).1:Int),((qa (qa (qa xs).2).2).1:Int),((qa (qa (qa (qa xs).2).2).2).1:Int),((qa (qa (qa (qa (qa xs).2).2).2).2).1:Int),(rblob (qa (qa (qa (qa (qa xs).2).2).2).2).2).1⟩):=rfl
   rw[hp,hxx]at hd
   generalize (rblob (qa (qa (qa (qa (qa xs).2).2).2).2).2).2=x9 at hd rdb
   generalize ((qa xs).1:Int)=pn at hd⊢
   generalize ((qa (qa xs).2).1:Int)=nonce at hd⊢
   generalize ((qa (qa (qa xs).2).2).1:Int)=lease at hd⊢
   generalize ((qa (qa (qa (qa xs).2).2).2).1:Int)=beats at hd⊢
   generalize ((qa (qa (qa (qa (qa xs).2).2).2).2).1:Int)=req at hd⊢
   generalize (rblob (qa (qa (qa (qa (qa xs).2).2).2).2).2).1=reply at hd db
   simp only at hd
   have hsb:=kall.sep
   have rb:=r5.keep kall
   have hdl:d.len=reply.length:=by rw[db.len,ml]
   clear rd5 rd6 rd7 rd8 rd9 rda k6 k7 k8 k9 ka kb hxx hp r5
   have fail:(x9.err≠0\/ag6 at' last ns (pn,⟨nonce,lease,beats,req,reply⟩))->∀ I',Q false I':=fun h I'=>by
    rw[me h]at hd
    rw[<-hd]at hx
    exact bad hx.symm I'
   refine⟨_,rdb.err hsb,?_⟩
   by_cases d1:(¬x9.err=0\/pn<=at')\/(last:Int)<pn
   .rw[me d1]
    unfold xK
    rw[me (.inl (.inl rfl))]
    unfold xJ
    rw[me rfl]
    rcases d1 with(h | h) | h
    .exact fail (.inl h) _
    .exact fail (.inr (.inl h)) _
    .exact fail (.inr (.inr (.inl h))) _
   rw[mc d1]
   refine aj0 fun _=>?_
   unfold adD
   show xK B ro (i:Int) sl (j:Int) X ((qa ⟨b,0⟩).1:Nat) (S home) (last:Nat) (n:Nat) pn nonce lease req d Q Y0 Z0 (!(okN nonce)) Ib
   unfold xK
   by_cases d2:okN nonce=false\/lease<1\/1048576<lease
   .rw[me (by
     rcases d2 with h | h | h
     .exact .inl (.inl (by rw[h];try rfl))
     .exact .inl (.inr h)
     .exact .inr h)]
    unfold xJ
    rw[me rfl]
    rcases d2 with h | h | h
    .exact fail (.inr (.inr (.inr (.inl h)))) _
    .exact fail (.inr (.inr (.inr (.inr (.inr (.inl h)))))) _
    .exact fail (.inr (.inr (.inr (.inr (.inr (.inr (.inl h))))))) _
   rw[not_or,not_or]at d2
   obtain⟨d2,d3,d4⟩:=d2
   have d2:okN nonce=true:=by simpa using d2
   rw[mc (by rw[d2];rintro((h | h) | h);cases h;exact d3 h;exact d4 h)]
   unfold xJ
   by_cases d5:req=0/\0<reply.length
   .rw[me (by rw[mF d5.1,mF (show 0<(d.len:Int) by rw[hdl];omega)];rfl)]
    exact fail (.inr (.inr (.inr (.inr (.inr (.inr (.inr d5))))))) _
   rw[mc (by
    intro h
    rw[mv]at h
    have h1:=nJ h.1
    have h2:=nJ h.2
    exact d5 ⟨h1,z6⟩)]
   have hsl:sl.len=ns.length:=by rw[rb.len,ml]
   suffices∀m q,q+m=ns.length->(∀y∈ns.take q,y≠nonce)->lfpD (jR B ro (i:Int) sl (j:Int) X ((qa ⟨b,0⟩).1:Nat) (S home) (last:Nat) (n:Nat) pn nonce Q Y0 Z0) (q:Int) Ib from
    this _ 0 (mp _) (fun y hy=>by simp at hy)
   intro m
   induction m with
   | zero=>
    intro q hq hno
    refine lfpD.intro ?_
    unfold jR
    rw[mc z6]
    unfold abe
    rw[mT z6]at hno
    have nb:¬ (x9.err≠0\/ag6 at' last ns (pn,⟨nonce,lease,beats,req,reply⟩)):=by
     rintro(h | h | h | h | h | h | h | h)
     .exact d1 (.inl (.inl h))
     .exact d1 (.inl (.inr h))
     .exact d1 (.inr h)
     .simp only at h;rw[d2]at h;cases h
     .exact hno _ h rfl
     .exact d3 h
     .exact d4 h
     .exact d5 h
    rw[mc nb]at hd
    refine qr (tag:=tagb) 0 hsb fun w tagc Ic stc wc=>?_
    refine adO (rb.keep (stc [])) (stc []).sep alL amo rfl (by simp[qk]) ((wc.read (stc []).sep).2.2 _ rfl 0 (.int .i64 nonce) rfl) rfl (by rw[ml];omega) z8 fun s' tagd Id std rd=>?_
    refine⟨s',rfl,?_⟩
    unfold abd
    rw[Pa.inc j z6]
    exact ih' (j+1) x9 pn (ns++[nonce]) s' tagd Id z6 hd std.sep ((rdb.keep (stc [])).keep std) (by rw[mJ];exact rd) (by simp[hnl])
   | succ m ihm=>
    intro q hq hno
    have hql:q<ns.length:=by omega
    obtain⟨pp,hpp,hg⟩:=rb.ptr hsb y6
    have hcell:=hg q (vI ns[q]) (by rw[mq,mh hql];try rfl)
    have etk:ns.take (q+1)=ns.take q++[ns[q]]:=by rw[np,mh hql];try rfl
    have hmem:ns[q]∈ns:=mO hql
    generalize ns[q]=v at hcell etk hmem
    refine lfpD.intro ?_
    generalize hV:lfpD (jR B ro (i:Int) sl (j:Int) X ((qa ⟨b,0⟩).1:Nat) (S home) (last:Nat) (n:Nat) pn nonce Q Y0 Z0)=V0 at ihm⊢
    unfold jR
    rw[me z6]
    refine⟨pp,hpp,z6,z6,v,by rw[mr];exact hcell,?_⟩
    by_cases d6:v=nonce
    .rw[me d6]
     subst d6
     exact fail (.inr (.inr (.inr (.inr (.inl hmem))))) _
    .rw[mc d6]
     rw[Pa.inc q z6]
     refine ihm (q+1) z6 fun y hy=>?_
     rw[etk]at hy
     rcases mt.1 hy with hy | hy
     .exact hno y hy
     .rw[mK.1 hy];exact d6
theorem arM(hr:SL.qU ro I a0 (b.map vU))(hc:a0.len<=a0.cap)(hl:b.length<=140737488355328)(hs:SL.Sep ro I)(hQ:∀ tag' I',(∀R,qd R ro tag I tag' I')->Q (aea b) I'):aaw B ro a0 I Q:=by
 refine adE ?_
 have base:aaw B (join ro I) a0 (fun _=>none) fun r τ=>SL.Sep (join ro I) τ->qI I τ->Q r (join I τ):=
  rt15_base (hr.all hs) hc hl (fun b o h=>by cases h) fun τ hτ hd=>hQ _ _ (afz (tag1:=T7) hs hd hτ tag)
 exact qc.mono base fun v τ ⟨r,hv,q⟩ h1 h2=>⟨r,hv,q h1 h2⟩
end Zt
namespace G
open Go SL
variable{B:World}{ro I:AH}
def yT(B:World)(ro:AH)(Q:Bool->AH->Prop)(u0:Bool)(I:AH):=
 Q u0 I
def abQ(B:World)(ro:AH)(u0:Nat)(Q:Bool->AH->Prop)(I:AH):=
 ∃u1,qb ro I ((⟨u0,0,none⟩:Addr).add 2)=some (.int .i64 u1)/\
 if u1=0 then
 vp B ro (some ⟨u0,0,none⟩) I fun u2 I=>
 yT B ro Q (decide (u2=0)) I
 else
 yT B ro Q false I
def abg(B:World)(ro:AH)(u0:Int)(u1:Nat)(u2:Int)(Q:Bool->AH->Prop)(Y8:(ByteArray×Int×Int)->AH->Prop)(u3:ByteArray)(u4:Int)(I:AH):=
 Y8 (u3,u4,i64.wrap (u0+1)) I
def kq(B:World)(ro:AH)(u0:Int)(u1:Nat)(u2:Int)(u3 u4:Nat)(u5:Int)(u6:ByteArray)(u7 u8:Int)(Q:Bool->AH->Prop)(Y8:(ByteArray×Int×Int)->AH->Prop)(Y31:Int->AH->Prop)(u9:Bool)(I:AH):=
 if u9=true then
 Q false I
 else
 ∃u10 u11,qB ro I ⟨u3,0,none⟩ 0 [.int .i64 u10,.string u11]/\
 stN ⟨u1,0,none⟩ (fun I=>
 Y31 (i64.wrap (u2+1)) I) [.int .i64 u10,.string u11] 0 I
def xQ(B:World)(ro:AH)(u0:Int)(u1:Nat)(u2:Int)(u3 u4:Nat)(u5:Int)(u6:ByteArray)(u7 u8:Int)(u9:Bool)(Q:Bool->AH->Prop)(Y8:(ByteArray×Int×Int)->AH->Prop)(Y31:Int->AH->Prop)(u10:Bool)(I:AH):=
 kq B ro u0 u1 u2 u3 u4 u5 u6 u7 u8 Q Y8 Y31 (!u10) I
def jZ(B:World)(ro:AH)(u0:Int)(u1:Nat)(u2:Int)(u3 u4:Nat)(u5:Int)(u6:ByteArray)(u7 u8:Int)(u9:Bool)(u10 u11:ByteArray)(Q:Bool->AH->Prop)(Y8:(ByteArray×Int×Int)->AH->Prop)(Y31:Int->AH->Prop)(u12:Bool)(I:AH):=
 xQ B ro u0 u1 u2 u3 u4 u5 u6 u7 u8 u9 Q Y8 Y31 u12 I
def ya(B:World)(ro:AH)(u0:Int)(u1:Nat)(u2:Int)(u3 u4:Nat)(u5:Int)(u6:ByteArray)(u7 u8:Int)(Q:Bool->AH->Prop)(Y8:(ByteArray×Int×Int)->AH->Prop)(Y31:Int->AH->Prop)(u9:Bool)(I:AH):=
 if u9=true then
 kq B ro u0 u1 u2 u3 u4 u5 u6 u7 u8 Q Y8 Y31 true I
 else
 ∃u10,qb ro I ((⟨u1,0,none⟩:Addr).add 1)=some (.string u10)/\
 ∃u11,qb ro I ((⟨u3,0,none⟩:Addr).add 1)=some (.string u11)/\
 if(zD u10 u11)=true then
 xQ B ro u0 u1 u2 u3 u4 u5 u6 u7 u8 u9 Q Y8 Y31 true I
 else
 ∃u12,qb ro I ((⟨u1,0,none⟩:Addr).add 1)=some (.string u12)/\
 ∃u13,qb ro I ((⟨u3,0,none⟩:Addr).add 1)=some (.string u13)/\
 if u12=u13 then
 ∃u14,qb ro I ⟨u1,0,none⟩=some (.int .i64 u14)/\
 ∃u15,qb ro I ⟨u3,0,none⟩=some (.int .i64 u15)/\
 jZ B ro u0 u1 u2 u3 u4 u5 u6 u7 u8 u9 u10 u11 Q Y8 Y31 (decide (u14<u15)) I
 else
 jZ B ro u0 u1 u2 u3 u4 u5 u6 u7 u8 u9 u10 u11 Q Y8 Y31 false I
def yb(B:World)(ro:AH)(u0:Int)(u1 u2:Nat)(u3:Int)(u4:ByteArray)(u5 u6:Int)(Q:Bool->AH->Prop)(Y8:(ByteArray×Int×Int)->AH->Prop):Int->AH->(Int->AH->Prop)->Prop:=fun u7 I Y31=>
 if u7<u6 then
 qm B ro (some ⟨u2,0,none⟩) I fun u8 I=>
 nw ro I (.cells #[.int .i64 0,.string ByteArray.empty] 324) fun u9 I=>
 stN ⟨u9,0,none⟩ (fun I=>
  qL B ro (some ⟨u2,0,none⟩) I fun u10 I=>
  awp prog ro (convert 24 9 (Sl.v u10)) (fun v I=>
  (∃(u11:ByteArray),v= .string u11/\
   stN ((⟨u9,0,none⟩:Addr).add 1) (fun I=>
   ∃u12,qb ro I ((⟨u2,0,none⟩:Addr).add 2)=some (.int .i64 u12)/\
   if¬(u12=0)then
    ya B ro u0 u1 u7 u9 u2 u3 u4 u5 u6 Q Y8 Y31 true I
   else
   ∃u13,qb ro I ⟨u9,0,none⟩=some (.int .i64 u13)/\
   ∃u14,qb ro I ((⟨u9,0,none⟩:Addr).add 1)=some (.string u14)/\
   aaA B ro u4 u5 u13 u14 I fun u15 I=>
   ya B ro u0 u1 u7 u9 u2 u3 u4 u5 u6 Q Y8 Y31 (!(decide (u15=0))) I) [.string u11] 0 I)) I) [.int .i64 u8,.string ByteArray.empty] 0 I
 else
 abg B ro u0 u2 u3 Q Y8 u4 u5 I
def yf(B:World)(ro:AH)(u0:Int)(u1:Nat)(u2:Int)(u3:ByteArray)(u4 u5:Int)(Q:Bool->AH->Prop)(Y8:(ByteArray×Int×Int)->AH->Prop)(u6:Bool)(I:AH):=
 if u6=true then
 Q false I
 else
 nw ro I (.cells #[.int .i64 0,.string ByteArray.empty] 324) fun u7 I=>
 stN ⟨u7,0,none⟩ (fun I=>
 lfpD (yb B ro u0 u7 u1 u2 u3 u4 u5 Q Y8) (0) I) [.int .i64 0,.string ByteArray.empty] 0 I
def abh(B:World)(ro:AH)(u0:Int)(u1:Nat)(u2:Int)(u3:ByteArray)(u4 u5 u6:Int)(Q:Bool->AH->Prop)(Y8:(ByteArray×Int×Int)->AH->Prop)(I:AH):=
 qm B ro (some ⟨u1,0,none⟩) I fun u7 I=>
 ∃u8,qb ro I ((⟨u1,0,none⟩:Addr).add 2)=some (.int .i64 u8)/\
 if((¬(u8=0))\/(32<u7))\/(32<(i64.wrap ((i64.wrap (u6 - u5))+u7)))then
 yf B ro u0 u1 u2 u3 u4 u7 Q Y8 true I
 else
 yf B ro u0 u1 u2 u3 u4 u7 Q Y8 ((decide (u7=0)) && (decide (u6=0))) I
def yg(B:World)(ro:AH)(u0 u1:Int)(u2:Nat)(u3:Int)(u4:ByteArray)(u5 u6 u7:Int)(Q:Bool->AH->Prop)(Y8:(ByteArray×Int×Int)->AH->Prop)(Y56:Int->AH->Prop)(u8:Bool)(I:AH):=
 if u8=true then
 Q false I
 else
 Y56 (i64.wrap (u1+1)) I
def yh(B:World)(ro:AH)(u0:Int)(u1:Nat)(u2:Int)(u3:ByteArray)(u4 u5 u6:Int)(Q:Bool->AH->Prop)(Y8:(ByteArray×Int×Int)->AH->Prop):Int->AH->(Int->AH->Prop)->Prop:=fun u7 I Y56=>
 if u7<u6 then
 qm B ro (some ⟨u1,0,none⟩) I fun u8 I=>
 qL B ro (some ⟨u1,0,none⟩) I fun u9 I=>
 awp prog ro (convert 24 9 (Sl.v u9)) (fun v I=>
  (∃(u10:ByteArray),v= .string u10/\
  ∃u11,qb ro I ((⟨u1,0,none⟩:Addr).add 2)=some (.int .i64 u11)/\
  if((¬(u11=0))\/(u8<1))\/(4<u8)then
   yg B ro u0 u7 u1 u2 u3 u4 u5 u6 Q Y8 Y56 true I
  else
  aaA B ro u3 u4 1 u10 I fun u12 I=>
  yg B ro u0 u7 u1 u2 u3 u4 u5 u6 Q Y8 Y56 (!(decide (u12=0))) I)) I
 else
 abh B ro u0 u1 u2 u3 u4 u5 u6 Q Y8 I
def kr(B:World)(ro:AH)(u0:Int)(u1:Nat)(u2:Int)(u3:ByteArray)(u4 u5 u6:Int)(Q:Bool->AH->Prop)(Y8:(ByteArray×Int×Int)->AH->Prop)(u7:Bool)(I:AH):=
 if((u7=true)\/(u6<u5))\/(32<(i64.wrap (u6 - u5)))then
 Q false I
 else
 lfpD (yh B ro u0 u1 u2 u3 u4 u5 u6 Q Y8) (u5) I
def yi(B:World)(ro:AH)(u0:Int)(u1:Nat)(u2:Int)(u3:ByteArray)(u4 u5 u6:Int)(u7:Bool)(Q:Bool->AH->Prop)(Y8:(ByteArray×Int×Int)->AH->Prop)(u8:Bool)(I:AH):=
 kr B ro u0 u1 u2 u3 u4 u5 u6 Q Y8 (!u8) I
def yj(B:World)(ro:AH)(u0:ByteArray)(u1 u2:Int)(u3:Nat)(u4:Int)(u5:ByteArray)(u6 u7 u8:Int)(Q:Bool->AH->Prop)(Y8:(ByteArray×Int×Int)->AH->Prop)(u9:Bool)(I:AH):=
 if u9=true then
 kr B ro u2 u3 u4 u5 u6 u7 u8 Q Y8 true I
 else
 if(zD u0 u5)=true then
 yi B ro u2 u3 u4 u5 u6 u7 u8 u9 Q Y8 true I
 else
 yi B ro u2 u3 u4 u5 u6 u7 u8 u9 Q Y8 ((decide (u0=u5)) && (decide (u1<u6))) I
def yU(B:World)(ro:AH)(u0:Nat)(u1:Int)(Q:Bool->AH->Prop):(ByteArray×Int×Int)->AH->((ByteArray×Int×Int)->AH->Prop)->Prop:=fun⟨u2,u3,u4⟩ I Y8=>
 if u4<u1 then
 qL B ro (some ⟨u0,0,none⟩) I fun u5 I=>
 awp prog ro (convert 24 9 (Sl.v u5)) (fun v I=>
  (∃(u6:ByteArray),v= .string u6/\
  qm B ro (some ⟨u0,0,none⟩) I fun u7 I=>
  qm B ro (some ⟨u0,0,none⟩) I fun u8 I=>
  qm B ro (some ⟨u0,0,none⟩) I fun u9 I=>
  ∃u10,qb ro I ((⟨u0,0,none⟩:Addr).add 2)=some (.int .i64 u10)/\
  if¬(u10=0)then
   yj B ro u2 u3 u4 u0 u1 u6 u7 u8 u9 Q Y8 true I
  else
  (⟨#[47]⟩:ByteArray).size+u6.size<=9223372036854775807/\
  aaA B ro u6 u7 1 ((⟨#[47]⟩:ByteArray)++u6) I fun u11 I=>
  yj B ro u2 u3 u4 u0 u1 u6 u7 u8 u9 Q Y8 (!(decide (u11=0))) I)) I
 else
 abQ B ro u0 Q I
def aeB(B:World)(ro:AH)(a0:Sl)(I:AH)(Q:Bool->AH->Prop):=
 nw ro I (.cells #[Sl.v a0,.int .i64 0,.int .i64 0] 147) fun u0 I=>
 qm B ro (some ⟨u0,0,none⟩) I fun u1 I=>
 lfpD (yU B ro u0 u1 Q) ((⟨#[]⟩:ByteArray),0,0) I
theorem akD{a0 Q}(h:Sep ro I->aeB B ro a0 I Q):aax B ro a0 I Q:=by
 refine zb h func111 ntmps111 fun h=>?_;unfold aeB at h;refine zw ?_;refine zm (wD (vs:=[(0,Sl.v a0)]) (cs:= #[Sl.v a0,.int .i64 0,.int .i64 0]) rfl mS ajs aju rfl rfl) ?_;refine zA (wY rfl rfl) h fun u0 h=>?_;refine zC func59 h fun u1 I h=>?_;refine AW.seqJ (fun fr I=>qg [(3,.pointer (some ⟨u0,0,none⟩))] fr/\abQ B ro u0 Q I) ?_ ?_
 .rintro fr I ⟨hl,h⟩;refine AW.weaken ?_ hl (HLe.refl _)
  unfold abQ at h;refine zw ?_;refine zm (qC rfl rfl) ?_;refine zf mS ty3 ?_;refine zLp mj h fun u2 h=>?_;refine qn 4 (decide (u2=0)) mg h (fun fr I=> ∃(u3:Bool),qg [(198,.bool u3)] fr/\yT B ro Q u3 I) ?_ ?_ ?_
  .intro h e5 hk5;refine zy e5 ?_;refine Lyb rfl rfl rfl rfl e5 (wu rfl func61 rfl rfl rfl (qc.mono h ?_))
   rintro v I ⟨u4,rfl,h⟩;refine zv e5 ?_;exact hk5 _ _ ⟨_,FL,h⟩
  .intro h e5 hk5;refine zv e5 ?_;exact hk5 _ _ ⟨_,FL,h⟩
  rintro fr I ⟨u3,hl,h⟩;unfold yT at h;refine Lfr hl ?_
  exact zr h
 refine zw ?_;refine qf.loop (fr':=[(3,.pointer (some ⟨u0,0,none⟩)),(4,.int .i64 u1),(5,.string (⟨#[]⟩:ByteArray)),(6,.int .i64 0),(7,.int .i64 0)]) ?_ FL
 refine h (fun⟨u5,u6,u7⟩ I=>qf _ _ _ _ _ _ [(3,.pointer (some ⟨u0,0,none⟩)),(4,.int .i64 u1),(5,.string u5),(6,.int .i64 u6),(7,.int .i64 u7)] I) ?_
 rintro⟨u5,u6,u7⟩ I Y8 hY8 h
 show AW _ _ _ _ _ _ _ _
 unfold yU at h;dsimp only at h;refine AW.seq ?_;refine zi h (fun h=>?_) fun h=>?_
 rotate_left
 .refine AW.exit ?_;refine zw ?_;refine qN ?_
  refine zw ?_;exact⟨FL,h⟩
 refine zw ?_;refine AW.seqJ (fun fr I=> ∃(u8:ByteArray) (u9:Int),qg [(3,.pointer (some ⟨u0,0,none⟩)),(4,.int .i64 u1),(7,.int .i64 u7),(5,.string u8),(6,.int .i64 u9)] fr/\abg B ro u7 u0 u1 Q Y8 u8 u9 I) ?_ ?_
 .rintro fr I ⟨u8,u9,hl,h⟩;refine AW.weaken ?_ hl (HLe.refl _)
  unfold abg at h;refine zw ?_;refine qf.head (fr':=[(3,.pointer (some ⟨u0,0,none⟩)),(4,.int .i64 u1),(5,.string u8),(6,.int .i64 u9),(7,.int .i64 (i64.wrap (u7+1)))]) ?_ FL
  exact hY8 _ _ h
 refine zc func60 h ?_;rintro v I ⟨u10,rfl,h⟩;refine zl (aeK rfl rfl (qj _ h ?_))
 rintro v I ⟨u11,rfl,h⟩;refine zc func59 h ?_;rintro v I ⟨u12,rfl,h⟩;refine zc func59 h ?_;rintro v I ⟨u13,rfl,h⟩;refine zC func59 h fun u14 I h=>?_;refine AW.seq ?_;refine zw ?_;refine zm (qC rfl rfl) ?_;refine zf mS ty3 ?_;refine zLp mj h fun u15 h=>?_;refine qn 7 (!(decide (u15=0))) (qp mg) h (fun fr I=> ∃(u16:Bool),qg [(3,.pointer (some ⟨u0,0,none⟩)),(4,.int .i64 u1),(5,.string u5),(6,.int .i64 u6),(7,.int .i64 u7),(8,.string u11),(9,.int .i64 u12),(10,.int .i64 u13),(11,.int .i64 u14),(50,.bool u16)] fr/\yj B ro u5 u6 u7 u0 u1 u11 u12 u13 u14 Q Y8 u16 I) ?_ ?_ ?_
 .intro h e5 hk5;refine zv e5 ?_;exact hk5 _ _ ⟨_,FL,h⟩
 .intro h e5 hk5;refine zv e5 ?_;obtain⟨hc,h⟩:=h
  refine qo (aeJ rfl rfl rfl hc) rfl rfl rfl rfl e5 ?_
  refine Lyb rfl rfl rfl rfl e5 (wu rfl func171 rfl rfl rfl (qc.mono h ?_))
  rintro v I ⟨u17,rfl,h⟩;refine zv e5 ?_;exact hk5 _ _ ⟨_,FL,h⟩
 rintro fr I ⟨u16,hl,h⟩;unfold yj at h;refine Lfr hl ?_
 refine zw ?_;refine qn 15 u16 Iff.rfl h (fun fr I=> ∃(u18:Bool),qg [(3,.pointer (some ⟨u0,0,none⟩)),(4,.int .i64 u1),(7,.int .i64 u7),(8,.string u11),(9,.int .i64 u12),(10,.int .i64 u13),(11,.int .i64 u14),(66,.bool u18)] fr/\kr B ro u7 u0 u1 u11 u12 u13 u14 Q Y8 u18 I) ?_ ?_ ?_
 .intro h e13 hk13;refine zv e13 ?_;refine Ln rfl rfl rfl rfl (.inr rfl) ?_
  refine Ln rfl rfl rfl rfl (.inr rfl) ?_
  refine Ln rfl rfl rfl rfl (.inr rfl) ?_
  refine Ln rfl rfl rfl rfl (.inr rfl) ?_
  refine Ln rfl rfl rfl rfl (.inr rfl) ?_
  refine Ln rfl rfl rfl rfl (.inr rfl) ?_
  refine Ln rfl rfl rfl rfl (.inr rfl) ?_
  refine Ln rfl rfl rfl rfl (.inr rfl) ?_
  refine zv e13 ?_;exact hk13 _ _ ⟨_,FL,h⟩
 .intro h e13 hk13;refine zv e13 ?_;refine qo (alP rfl rfl rfl) rfl rfl rfl rfl e13 ?_
  refine zy e13 ?_;refine qn 9 (zD u5 u11) Iff.rfl h (fun fr I=> ∃(u19:Bool),qg [(3,.pointer (some ⟨u0,0,none⟩)),(4,.int .i64 u1),(7,.int .i64 u7),(8,.string u11),(9,.int .i64 u12),(10,.int .i64 u13),(11,.int .i64 u14),(51,.bool u16),(64,.bool u19)] fr/\yi B ro u7 u0 u1 u11 u12 u13 u14 u16 Q Y8 u19 I) ?_ ?_ ?_
  .intro h e17 hk17;refine zv e17 ?_;refine Ln rfl rfl rfl rfl (.inr rfl) ?_
   refine Ln rfl rfl rfl rfl (.inr rfl) ?_
   refine Ln rfl rfl rfl rfl (.inr rfl) ?_
   refine zn e17 ?_;refine qo (qT rfl (evb e17) rfl) rfl rfl rfl rfl e13 ?_
   exact hk17 _ _ ⟨_,FL,h⟩
  .intro h e17 hk17;refine zv e17 ?_;refine qx 4 (decide (u5=u11)) [(3,.pointer (some ⟨u0,0,none⟩)),(4,.int .i64 u1),(7,.int .i64 u7),(8,.string u11),(9,.int .i64 u12),(10,.int .i64 u13),(11,.int .i64 u14),(51,.bool u16),(55,.bool (zD u5 u11)),(63,.bool ((decide (u5=u11)) && (decide (u6<u12))))] ?_ ?_ ?_
   .intro e21 hk21
    refine zv e21 ?_;refine qo (qT rfl (evb e21) rfl) rfl rfl rfl rfl e17 ?_
    exact hk21 _ (Fe e21)
   .intro e21 hk21
    refine zv e21 ?_;refine qo (wL rfl (evb e21) rfl) rfl rfl rfl rfl e17 ?_
    exact hk21 _ (Fe e21)
   intro fr hl
   refine Lfr hl ?_
   refine qo (wL rfl (evb e17) rfl) rfl rfl rfl rfl e13 ?_
   exact hk17 _ _ ⟨_,FL,h⟩
  rintro fr I ⟨u19,hl,h⟩;unfold yi at h;refine Lfr hl ?_
  refine zv e13 ?_;exact hk13 _ _ ⟨_,FL,h⟩
 rintro fr I ⟨u18,hl,h⟩;unfold kr at h;refine Lfr hl ?_
 refine zw ?_;refine qx 4 u18 [(3,.pointer (some ⟨u0,0,none⟩)),(4,.int .i64 u1),(7,.int .i64 u7),(8,.string u11),(9,.int .i64 u12),(10,.int .i64 u13),(11,.int .i64 u14),(71,.bool (u18 || (decide (u14<u13))))] ?_ ?_ ?_
 .intro e29 hk29
  refine zv e29 ?_;exact hk29 _ (Fe e29)
 .intro e29 hk29
  refine zv e29 ?_;exact hk29 _ (Fe e29)
 intro fr hl
 refine Lfr hl ?_
 refine zw ?_;refine qx 5 (u18 || (decide (u14<u13))) [(3,.pointer (some ⟨u0,0,none⟩)),(4,.int .i64 u1),(7,.int .i64 u7),(8,.string u11),(9,.int .i64 u12),(10,.int .i64 u13),(11,.int .i64 u14),(77,.bool ((u18 || (decide (u14<u13))) || (decide (32<(i64.wrap (u14 - u13))))))] ?_ ?_ ?_
 .intro e34 hk34
  refine zv e34 ?_;exact hk34 _ (Fe e34)
 .intro e34 hk34
  refine zv e34 ?_;exact hk34 _ (Fe e34)
 intro fr hl
 refine Lfr hl ?_
 refine zw ?_;refine AW.iff rfl (qJ (qJ Iff.rfl mg) mg) h (fun h=>?_) (fun h=>?_)
 .exact zr h
 refine zw ?_;refine AW.seqJ (fun fr I=>qg [(3,.pointer (some ⟨u0,0,none⟩)),(4,.int .i64 u1),(5,.string u11),(6,.int .i64 u12),(7,.int .i64 u7),(8,.string u11),(9,.int .i64 u12),(10,.int .i64 u13),(11,.int .i64 u14)] fr/\abh B ro u7 u0 u1 u11 u12 u13 u14 Q Y8 I) ?_ ?_
 rotate_left
 .refine zw ?_;refine qf.loop (fr':=[(3,.pointer (some ⟨u0,0,none⟩)),(4,.int .i64 u1),(5,.string u11),(6,.int .i64 u12),(7,.int .i64 u7),(8,.string u11),(9,.int .i64 u12),(10,.int .i64 u13),(11,.int .i64 u14),(12,.int .i64 u13)]) ?_ FL
  refine h (fun u20 I=>qf _ _ _ _ _ _ [(3,.pointer (some ⟨u0,0,none⟩)),(4,.int .i64 u1),(5,.string u11),(6,.int .i64 u12),(7,.int .i64 u7),(8,.string u11),(9,.int .i64 u12),(10,.int .i64 u13),(11,.int .i64 u14),(12,.int .i64 u20)] I) ?_
  rintro u20 I Y56 hY56 h
  show AW _ _ _ _ _ _ _ _
  unfold yh at h;refine AW.seq ?_;refine zi h (fun h=>?_) fun h=>?_
  rotate_left
  .refine AW.exit ?_;refine zw ?_;refine qN ?_
   refine zw ?_;exact⟨FL,h⟩
  refine zw ?_;refine AW.seq ?_;refine zc func59 h ?_;rintro v I ⟨u21,rfl,h⟩;refine zc func60 h ?_;rintro v I ⟨u22,rfl,h⟩;refine zl (aeK rfl rfl (qj _ h ?_))
  rintro v I ⟨u23,rfl,h⟩;refine zw ?_;refine zm (qC rfl rfl) ?_;refine zf mS ty3 ?_;refine zLp mj h fun u24 h=>?_;refine qx 3 (!(decide (u24=0))) [(3,.pointer (some ⟨u0,0,none⟩)),(4,.int .i64 u1),(5,.string u11),(6,.int .i64 u12),(7,.int .i64 u7),(8,.string u11),(9,.int .i64 u12),(10,.int .i64 u13),(11,.int .i64 u14),(12,.int .i64 u20),(13,.int .i64 u21),(14,.string u23),(99,.bool ((!(decide (u24=0))) || (decide (u21<1))))] ?_ ?_ ?_
  .intro e5 hk5
   refine zv e5 ?_;exact hk5 _ (Fe e5)
  .intro e5 hk5
   refine zv e5 ?_;exact hk5 _ (Fe e5)
  intro fr hl
  refine Lfr hl ?_
  refine zw ?_;refine qx 3 ((!(decide (u24=0))) || (decide (u21<1))) [(3,.pointer (some ⟨u0,0,none⟩)),(4,.int .i64 u1),(5,.string u11),(6,.int .i64 u12),(7,.int .i64 u7),(8,.string u11),(9,.int .i64 u12),(10,.int .i64 u13),(11,.int .i64 u14),(12,.int .i64 u20),(14,.string u23),(103,.bool (((!(decide (u24=0))) || (decide (u21<1))) || (decide (4<u21))))] ?_ ?_ ?_
  .intro e9 hk9
   refine zv e9 ?_;exact hk9 _ (Fe e9)
  .intro e9 hk9
   refine zv e9 ?_;exact hk9 _ (Fe e9)
  intro fr hl
  refine Lfr hl ?_
  refine zw ?_;refine qn 6 (((!(decide (u24=0))) || (decide (u21<1))) || (decide (4<u21))) (qJ (qJ (qp mg) mg) mg) h (fun fr I=> ∃(u25:Bool),qg [(3,.pointer (some ⟨u0,0,none⟩)),(4,.int .i64 u1),(5,.string u11),(6,.int .i64 u12),(7,.int .i64 u7),(8,.string u11),(9,.int .i64 u12),(10,.int .i64 u13),(11,.int .i64 u14),(12,.int .i64 u20),(110,.bool u25)] fr/\yg B ro u7 u20 u0 u1 u11 u12 u13 u14 Q Y8 Y56 u25 I) ?_ ?_ ?_
  .intro h e13 hk13;refine zv e13 ?_;exact hk13 _ _ ⟨_,FL,h⟩
  .intro h e13 hk13;refine zv e13 ?_;refine Lyb rfl rfl rfl rfl e13 (wu rfl func171 rfl rfl rfl (qc.mono h ?_))
   rintro v I ⟨u26,rfl,h⟩;refine zv e13 ?_;exact hk13 _ _ ⟨_,FL,h⟩
  rintro fr I ⟨u25,hl,h⟩;unfold yg at h;refine Lfr hl ?_
  refine zj h (fun h=>?_) fun h=>?_
  .exact zr h
  refine zw ?_;refine qf.head (fr':=[(3,.pointer (some ⟨u0,0,none⟩)),(4,.int .i64 u1),(5,.string u11),(6,.int .i64 u12),(7,.int .i64 u7),(8,.string u11),(9,.int .i64 u12),(10,.int .i64 u13),(11,.int .i64 u14),(12,.int .i64 (i64.wrap (u20+1)))]) ?_ FL
  exact hY56 _ _ h
 rintro fr I ⟨hl,h⟩;refine AW.weaken ?_ hl (HLe.refl _)
 unfold abh at h;refine zC func59 h fun u27 I h=>?_;refine AW.seq ?_;refine zw ?_;refine zm (qC rfl rfl) ?_;refine zf mS ty3 ?_;refine zLp mj h fun u28 h=>?_;refine qx 3 (!(decide (u28=0))) [(3,.pointer (some ⟨u0,0,none⟩)),(4,.int .i64 u1),(5,.string u11),(6,.int .i64 u12),(7,.int .i64 u7),(8,.string u11),(9,.int .i64 u12),(10,.int .i64 u13),(11,.int .i64 u14),(15,.int .i64 u27),(121,.bool ((!(decide (u28=0))) || (decide (32<u27))))] ?_ ?_ ?_
 .intro e5 hk5
  refine zv e5 ?_;exact hk5 _ (Fe e5)
 .intro e5 hk5
  refine zv e5 ?_;exact hk5 _ (Fe e5)
 intro fr hl
 refine Lfr hl ?_
 refine zw ?_;refine qx 7 ((!(decide (u28=0))) || (decide (32<u27))) [(3,.pointer (some ⟨u0,0,none⟩)),(4,.int .i64 u1),(5,.string u11),(6,.int .i64 u12),(7,.int .i64 u7),(8,.string u11),(9,.int .i64 u12),(11,.int .i64 u14),(15,.int .i64 u27),(129,.bool (((!(decide (u28=0))) || (decide (32<u27))) || (decide (32<(i64.wrap ((i64.wrap (u14 - u13))+u27))))))] ?_ ?_ ?_
 .intro e9 hk9
  refine zv e9 ?_;exact hk9 _ (Fe e9)
 .intro e9 hk9
  refine zv e9 ?_;exact hk9 _ (Fe e9)
 intro fr hl
 refine Lfr hl ?_
 refine zw ?_;refine qn 7 (((!(decide (u28=0))) || (decide (32<u27))) || (decide (32<(i64.wrap ((i64.wrap (u14 - u13))+u27))))) (qJ (qJ (qp mg) mg) mg) h (fun fr I=> ∃(u29:Bool),qg [(3,.pointer (some ⟨u0,0,none⟩)),(4,.int .i64 u1),(5,.string u11),(6,.int .i64 u12),(7,.int .i64 u7),(8,.string u11),(9,.int .i64 u12),(15,.int .i64 u27),(137,.bool u29)] fr/\yf B ro u7 u0 u1 u11 u12 u27 Q Y8 u29 I) ?_ ?_ ?_
 .intro h e17 hk17;refine zv e17 ?_;refine Ln rfl rfl rfl rfl (.inr rfl) ?_
  refine Ln rfl rfl rfl rfl (.inr rfl) ?_
  refine zv e17 ?_;exact hk17 _ _ ⟨_,FL,h⟩
 .intro h e17 hk17;refine zv e17 ?_;refine qx 3 (decide (u27=0)) [(3,.pointer (some ⟨u0,0,none⟩)),(4,.int .i64 u1),(5,.string u11),(6,.int .i64 u12),(7,.int .i64 u7),(8,.string u11),(9,.int .i64 u12),(15,.int .i64 u27),(130,.bool (((!(decide (u28=0))) || (decide (32<u27))) || (decide (32<(i64.wrap ((i64.wrap (u14 - u13))+u27)))))),(136,.bool ((decide (u27=0)) && (decide (u14=0))))] ?_ ?_ ?_
  .intro e20 hk20
   refine zv e20 ?_;refine qo (qT rfl (evb e20) rfl) rfl rfl rfl rfl e17 ?_
   exact hk20 _ (Fe e20)
  .intro e20 hk20
   refine zv e20 ?_;refine qo (wL rfl (evb e20) rfl) rfl rfl rfl rfl e17 ?_
   exact hk20 _ (Fe e20)
  intro fr hl
  refine Lfr hl ?_
  refine zk e17 ?_;exact hk17 _ _ ⟨_,FL,h⟩
 rintro fr I ⟨u29,hl,h⟩;unfold yf at h;refine Lfr hl ?_
 refine zj h (fun h=>?_) fun h=>?_
 .exact zr h
 refine zw ?_;refine zm (wD (vs:=[]) (cs:= #[.int .i64 0,.string ByteArray.empty]) rfl nQ afN arj rfl rfl) ?_;refine zA (vw rfl afN) h fun u30 h=>?_;refine zsp afN h fun I h=>?_;refine qf.loop (fr':=[(3,.pointer (some ⟨u0,0,none⟩)),(4,.int .i64 u1),(5,.string u11),(6,.int .i64 u12),(7,.int .i64 u7),(8,.string u11),(9,.int .i64 u12),(15,.int .i64 u27),(16,.pointer (some ⟨u30,0,none⟩)),(17,.int .i64 0)]) ?_ FL
 refine h (fun u31 I=>qf _ _ _ _ _ _ [(3,.pointer (some ⟨u0,0,none⟩)),(4,.int .i64 u1),(5,.string u11),(6,.int .i64 u12),(7,.int .i64 u7),(8,.string u11),(9,.int .i64 u12),(15,.int .i64 u27),(16,.pointer (some ⟨u30,0,none⟩)),(17,.int .i64 u31)] I) ?_
 rintro u31 I Y31 hY31 h
 show AW _ _ _ _ _ _ _ _
 unfold yb at h;refine AW.seq ?_;refine zi h (fun h=>?_) fun h=>?_
 rotate_left
 .refine AW.exit ?_;refine zw ?_;refine qN ?_
  refine zw ?_;exact⟨_,_,FL,h⟩
 refine zw ?_;refine AW.seq ?_;refine zc func59 h ?_;rintro v I ⟨u32,rfl,h⟩;refine zm (wD (vs:=[(0,.int .i64 u32)]) (cs:= #[.int .i64 u32,.string ByteArray.empty]) rfl nQ afN arj rfl rfl) ?_;refine zA (vw rfl afN) h fun u33 h=>?_;refine zs afN h fun I h=>?_;refine zc func60 h ?_;rintro v I ⟨u34,rfl,h⟩;refine zl (aeK rfl rfl (qj _ h ?_))
 rintro v I ⟨u35,rfl,h⟩;refine zf nQ ty9 ?_;refine zsp ty9 h fun I h=>?_;refine AW.seq ?_;refine zw ?_;refine zm (qC rfl rfl) ?_;refine zf mS ty3 ?_;refine zLp mj h fun u36 h=>?_;refine qn 9 (!(decide (u36=0))) (qp mg) h (fun fr I=> ∃(u37:Bool),qg [(3,.pointer (some ⟨u0,0,none⟩)),(4,.int .i64 u1),(5,.string u11),(6,.int .i64 u12),(7,.int .i64 u7),(8,.string u11),(9,.int .i64 u12),(15,.int .i64 u27),(16,.pointer (some ⟨u30,0,none⟩)),(17,.int .i64 u31),(18,.pointer (some ⟨u33,0,none⟩)),(165,.bool u37)] fr/\ya B ro u7 u30 u31 u33 u0 u1 u11 u12 u27 Q Y8 Y31 u37 I) ?_ ?_ ?_
 .intro h e5 hk5;refine zv e5 ?_;exact hk5 _ _ ⟨_,FL,h⟩
 .intro h e5 hk5;refine zv e5 ?_;refine qo (qK rfl nQ rfl ty3 z8 rfl) rfl rfl rfl rfl e5 ?_
  obtain⟨u38,hc,h⟩:=h
  refine Lyb rfl rfl rfl rfl e5 (wU rfl mj rfl rfl hc ?_)
  refine qo (qK rfl nQ rfl ty9 z8 rfl) rfl rfl rfl rfl e5 ?_
  obtain⟨u39,hc,h⟩:=h
  refine Lyb rfl rfl rfl rfl e5 (wU rfl mu rfl rfl hc ?_)
  refine Lyb rfl rfl rfl rfl e5 (wu rfl func171 rfl rfl rfl (qc.mono h ?_))
  rintro v I ⟨u40,rfl,h⟩;refine zv e5 ?_;exact hk5 _ _ ⟨_,FL,h⟩
 rintro fr I ⟨u37,hl,h⟩;unfold ya at h;refine Lfr hl ?_
 refine zw ?_;refine qn 21 u37 Iff.rfl h (fun fr I=> ∃(u41:Bool),qg [(3,.pointer (some ⟨u0,0,none⟩)),(4,.int .i64 u1),(5,.string u11),(6,.int .i64 u12),(7,.int .i64 u7),(8,.string u11),(9,.int .i64 u12),(15,.int .i64 u27),(16,.pointer (some ⟨u30,0,none⟩)),(17,.int .i64 u31),(18,.pointer (some ⟨u33,0,none⟩)),(187,.bool u41)] fr/\kq B ro u7 u30 u31 u33 u0 u1 u11 u12 u27 Q Y8 Y31 u41 I) ?_ ?_ ?_
 .intro h e15 hk15;refine zv e15 ?_;refine Ln rfl rfl rfl rfl (.inr rfl) ?_
  refine Ln rfl rfl rfl rfl (.inr rfl) ?_
  refine Ln rfl rfl rfl rfl (.inr rfl) ?_
  refine Ln rfl rfl rfl rfl (.inr rfl) ?_
  refine Ln rfl rfl rfl rfl (.inr rfl) ?_
  refine Ln rfl rfl rfl rfl (.inr rfl) ?_
  refine Ln rfl rfl rfl rfl (.inr rfl) ?_
  refine Ln rfl rfl rfl rfl (.inr rfl) ?_
  refine Ln rfl rfl rfl rfl (.inr rfl) ?_
  refine Ln rfl rfl rfl rfl (.inr rfl) ?_
  refine Ln rfl rfl rfl rfl (.inr rfl) ?_
  refine Ln rfl rfl rfl rfl (.inr rfl) ?_
  refine zv e15 ?_;exact hk15 _ _ ⟨_,FL,h⟩
 .intro h e15 hk15;refine qo (qK rfl nQ rfl ty9 z8 rfl) rfl rfl rfl rfl e15 ?_
  obtain⟨u42,hc,h⟩:=h
  refine Lyb rfl rfl rfl rfl e15 (wU rfl mu rfl rfl hc ?_)
  refine qo (qK rfl nQ rfl ty9 z8 rfl) rfl rfl rfl rfl e15 ?_
  obtain⟨u43,hc,h⟩:=h
  refine Lyb rfl rfl rfl rfl e15 (wU rfl mu rfl rfl hc ?_)
  refine qo (alP rfl rfl rfl) rfl rfl rfl rfl e15 ?_
  refine zy e15 ?_;refine qn 13 (zD u42 u43) Iff.rfl h (fun fr I=> ∃(u44:Bool),qg [(3,.pointer (some ⟨u0,0,none⟩)),(4,.int .i64 u1),(5,.string u11),(6,.int .i64 u12),(7,.int .i64 u7),(8,.string u11),(9,.int .i64 u12),(15,.int .i64 u27),(16,.pointer (some ⟨u30,0,none⟩)),(17,.int .i64 u31),(18,.pointer (some ⟨u33,0,none⟩)),(166,.bool u37),(185,.bool u44)] fr/\xQ B ro u7 u30 u31 u33 u0 u1 u11 u12 u27 u37 Q Y8 Y31 u44 I) ?_ ?_ ?_
  .intro h e21 hk21;refine zv e21 ?_;refine Ln rfl rfl rfl rfl (.inr rfl) ?_
   refine Ln rfl rfl rfl rfl (.inr rfl) ?_
   refine Ln rfl rfl rfl rfl (.inr rfl) ?_
   refine Ln rfl rfl rfl rfl (.inr rfl) ?_
   refine Ln rfl rfl rfl rfl (.inr rfl) ?_
   refine zn e21 ?_;refine qo (qT rfl (evb e21) rfl) rfl rfl rfl rfl e15 ?_
   exact hk21 _ _ ⟨_,FL,h⟩
  .intro h e21 hk21;refine qo (qK rfl nQ rfl ty9 z8 rfl) rfl rfl rfl rfl e21 ?_
   obtain⟨u45,hc,h⟩:=h
   refine Lyb rfl rfl rfl rfl e21 (wU rfl mu rfl rfl hc ?_)
   refine qo (qK rfl nQ rfl ty9 z8 rfl) rfl rfl rfl rfl e21 ?_
   obtain⟨u46,hc,h⟩:=h
   refine Lyb rfl rfl rfl rfl e21 (wU rfl mu rfl rfl hc ?_)
   refine zv e21 ?_;refine qn 6 (decide (u45=u46)) mg h (fun fr I=> ∃(u47:Bool),qg [(3,.pointer (some ⟨u0,0,none⟩)),(4,.int .i64 u1),(5,.string u11),(6,.int .i64 u12),(7,.int .i64 u7),(8,.string u11),(9,.int .i64 u12),(15,.int .i64 u27),(16,.pointer (some ⟨u30,0,none⟩)),(17,.int .i64 u31),(18,.pointer (some ⟨u33,0,none⟩)),(166,.bool u37),(172,.bool (zD u42 u43)),(184,.bool u47)] fr/\jZ B ro u7 u30 u31 u33 u0 u1 u11 u12 u27 u37 u42 u43 Q Y8 Y31 u47 I) ?_ ?_ ?_
   .intro h e27 hk27;refine qo (qK rfl nQ rfl ty3 z8 rfl) rfl rfl rfl rfl e27 ?_
    obtain⟨u48,hc,h⟩:=h
    refine Lyb rfl rfl rfl rfl e27 (wU rfl mj rfl rfl hc ?_)
    refine qo (qK rfl nQ rfl ty3 z8 rfl) rfl rfl rfl rfl e27 ?_
    obtain⟨u49,hc,h⟩:=h
    refine Lyb rfl rfl rfl rfl e27 (wU rfl mj rfl rfl hc ?_)
    refine zy e27 ?_;refine qo (qT rfl (evb e27) rfl) rfl rfl rfl rfl e21 ?_
    exact hk27 _ _ ⟨_,FL,h⟩
   .intro h e27 hk27;refine zv e27 ?_;refine qo (wL rfl (evb e27) rfl) rfl rfl rfl rfl e21 ?_
    exact hk27 _ _ ⟨_,FL,h⟩
   rintro fr I ⟨u47,hl,h⟩;unfold jZ at h;refine Lfr hl ?_
   refine qo (wL rfl (evb e21) rfl) rfl rfl rfl rfl e15 ?_
   exact hk21 _ _ ⟨_,FL,h⟩
  rintro fr I ⟨u44,hl,h⟩;unfold xQ at h;refine Lfr hl ?_
  refine zv e15 ?_;exact hk15 _ _ ⟨_,FL,h⟩
 rintro fr I ⟨u41,hl,h⟩;unfold kq at h;refine Lfr hl ?_
 refine zj h (fun h=>?_) fun h=>?_
 .exact zr h
 refine zw ?_;obtain⟨u50,u51,hc,h⟩:=h
 refine zl (jz rfl nQ rfl afN rfl hc ?_)
 refine zsp afN h fun I h=>?_;refine qf.head (fr':=[(3,.pointer (some ⟨u0,0,none⟩)),(4,.int .i64 u1),(5,.string u11),(6,.int .i64 u12),(7,.int .i64 u7),(8,.string u11),(9,.int .i64 u12),(15,.int .i64 u27),(16,.pointer (some ⟨u30,0,none⟩)),(17,.int .i64 (i64.wrap (u31+1)))]) ?_ FL
 exact hY31 _ _ h
def uL(B:World)(ro:AH)(Q:Int->AH->Prop)(u0:Bool)(I:AH):=
 if u0=true then
 Q 82 I
 else
 Q 0 I
def yV(B:World)(ro:AH)(a1:Int)(Q:Int->AH->Prop)(u0:Bool)(I:AH):=
 if(u0=true)\/(a1<1)then
 uL B ro Q true I
 else
 aiB B ro a1 I fun u1 I=>
 uL B ro Q u1 I
def aeC(B:World)(ro:AH)(a0:ByteArray)(a1 a2:Int)(a3:ByteArray)(I:AH)(Q:Int->AH->Prop):=
 if(¬(a2=1))/\(¬(a2=2))then
 Q 160 I
 else
 ae8 B ro a3 I fun u0 u1 I=>
 if¬(u1=true)then
 Q 20 I
 else
 if¬(u0=a0)then
 yV B ro a1 Q true I
 else
 abn B ro a0 I fun u2 I=>
 yV B ro a1 Q (!u2) I
theorem akE{a0 a1 a2 a3 Q}(h:Sep ro I->aeC B ro a0 a1 a2 a3 I Q):aaA B ro a0 a1 a2 a3 I Q:=by
 refine zb h func171 ntmps171 fun h=>?_;unfold aeC at h;refine zw ?_;refine AW.seq ?_;refine zw ?_;refine qx 3 (!(decide (a2=1))) [(0,.string a0),(1,.int .i64 a1),(3,.string a3),(16,.bool ((!(decide (a2=1))) && (!(decide (a2=2)))))] ?_ ?_ ?_
 .intro e2 hk2
  refine zv e2 ?_;exact hk2 _ (Fe e2)
 .intro e2 hk2
  refine zv e2 ?_;exact hk2 _ (Fe e2)
 intro fr hl
 refine Lfr hl ?_
 refine zw ?_;refine AW.iff rfl (xv (qp mg) (qp mg)) h (fun h=>?_) (fun h=>?_)
 .exact zr h
 refine zc func28 h ?_;rintro v I ⟨u0,u1,rfl,h⟩;refine zw ?_;refine AW.seq ?_;refine zw ?_;refine AW.iff rfl (qp Iff.rfl) h (fun h=>?_) (fun h=>?_)
 .exact zr h
 refine zw ?_;refine AW.seq ?_;refine zw ?_;refine zm (ajg rfl rfl rfl) ?_;refine zw ?_;refine qn 4 (!(decide (u0=a0))) (qp mg) h (fun fr I=> ∃(u2:Bool),qg [(1,.int .i64 a1),(31,.bool u2)] fr/\yV B ro a1 Q u2 I) ?_ ?_ ?_
 .intro h e3 hk3;refine zv e3 ?_;exact hk3 _ _ ⟨_,FL,h⟩
 .intro h e3 hk3;refine zy e3 ?_;refine Lyb rfl rfl rfl rfl e3 (wu rfl func37 rfl rfl rfl (qc.mono h ?_))
  rintro v I ⟨u3,rfl,h⟩;refine zv e3 ?_;exact hk3 _ _ ⟨_,FL,h⟩
 rintro fr I ⟨u2,hl,h⟩;unfold yV at h;refine Lfr hl ?_
 refine zw ?_;refine qx 3 u2 [(1,.int .i64 a1),(35,.bool (u2 || (decide (a1<1))))] ?_ ?_ ?_
 .intro e8 hk8
  refine zv e8 ?_;exact hk8 _ (Fe e8)
 .intro e8 hk8
  refine zv e8 ?_;exact hk8 _ (Fe e8)
 intro fr hl
 refine Lfr hl ?_
 refine zw ?_;refine qn 3 (u2 || (decide (a1<1))) (qJ Iff.rfl mg) h (fun fr I=> ∃(u4:Bool),qg [(39,.bool u4)] fr/\uL B ro Q u4 I) ?_ ?_ ?_
 .intro h e12 hk12;refine zv e12 ?_;exact hk12 _ _ ⟨_,FL,h⟩
 .intro h e12 hk12;refine zy e12 ?_;refine Lyb rfl rfl rfl rfl e12 (wu rfl func118 rfl rfl rfl (qc.mono h ?_))
  rintro v I ⟨u5,rfl,h⟩;refine zk e12 ?_;exact hk12 _ _ ⟨_,FL,h⟩
 rintro fr I ⟨u4,hl,h⟩;unfold uL at h;refine Lfr hl ?_
 refine zj h (fun h=>?_) fun h=>?_
 .exact zr h
 exact zr h
end G
namespace Zt
open Go SL G Pa Wi
variable{B:World}[Zd B]{ro I I':AH}{tag tag':Nat->Nat}
variable{Q:Bool->AH->Prop}{h:Hub}{bs:List Nat}{M T b c:Nat}{a0:Sl}{home p:Str}{k:Str×Int}{t:Tbl}{d:xG}
theorem apC{Q:ByteArray->Bool->AH->Prop}(hs:SL.Sep ro I)(hQ:∀ tag' I',qd [] ro tag I tag' I'->Q (S ((kD p).getD [])) (decide (parts p≠none)) I'):ae8 B ro (S p) I Q:=by
 refine ali fun _=>?_
 unfold afi
 have hL:L (S p)=p:=L_S p
 refine an7 (tag:=tag) 15 hs (fun hn sl tag1 I1 st1=>?_) fun ps hps sl tag1 I1 st1 r1=>?_
 .rw[hL]at hn
  rw[me (.inl z7)]
  have:=hQ tag1 I1 st1
  unfold kD at this
  rw[hn]at this
  exact this
 .rw[hL]at hps
  have hq:=hQ tag1 I1 st1
  unfold kD at hq
  rw[hps]at hq
  match ps,hq,r1 with
  | [],hq,r1=>
   rw[me (.inr (by rw[r1.len];try rfl))]
   exact hq
  | x::r,hq,r1=>
   have hl:sl.len=r.length+1:=by rw[r1.len];simp
   rw[mc y6]
   obtain⟨q,hq',hg⟩:=r1.ptr st1.sep z7
   exact⟨q,hq',z6,z6,S x,by simpa using hg 0 _ rfl,hq⟩
theorem ah7{m:xq}{Q:Int->AH->Prop}(hs:SL.Sep ro I)(hQ:∀ tag' I',qd [] ro tag I tag' I'->Q (wQ k m) I'):aaA B ro (S k.1) k.2 m.2 (S m.1) I Q:=by
 refine akE fun _=>?_
 unfold aeC
 unfold wQ at hQ
 by_cases c1:m.2≠1/\m.2≠2
 .rw[me c1]
  have:=hQ tag I (qd.refl hs)
  rw[me c1]at this
  exact this
 rw[mc c1]
 refine apC (tag:=tag) hs fun tag1 I1 st1=>?_
 have hq:=hQ tag1 I1 st1
 rw[mc c1]at hq
 by_cases c2:parts m.1=none
 .rw[me (by rw[c2];simp)]
  rw[me c2]at hq
  exact hq
 rw[mc (by simp[c2])]
 rw[mc c2]at hq
 by_cases c3:(kD m.1).getD []≠k.1
 .rw[me (by rw[yu];exact c3)]
  rw[me (.inl c3)]at hq
  unfold yV
  rw[me (.inl rfl)]
  exact hq
 rw[mc (by rw[yu];exact c3)]
 refine aiX ?_
 rw[L_S]
 unfold yV
 by_cases c4:qV k.1=false\/k.2<1
 .rw[me (by rcases c4 with h | h;exact .inl (by rw[h];try rfl);exact .inr h)]
  rw[me (by rcases c4 with h | h;exact .inr (.inl h);exact .inr (.inr (.inl h)))]at hq
  exact hq
 rw[not_or]at c4
 have c5:qV k.1=true:=by simpa using c4.1
 rw[mc (by rw[c5];rintro(h | h);cases h;exact c4.2 h)]
 refine al1 fun _=>?_
 unfold aga uL
 show if(decide (k.2<0) || decide (4611686018427387903<k.2))=true then Q 82 _ else Q 0 _
 by_cases c6:4611686018427387903<k.2
 .rw[me (by rw[mF c6,Bool.or_true])]
  rw[me (.inr (.inr (.inr c6)))]at hq
  exact hq
 .rw[mc (by rw[mL c6,mL z6];simp)]
  rw[mc (by rintro(h | h | h | h);exact c3 h;exact c4.1 h;exact c4.2 h;exact c6 h)]at hq
  exact hq
theorem rt16_base{b:Str}(hr:SL.qU ro (fun _=>none) a0 (b.map vU))(hc:a0.len<=a0.cap)(hl:b.length<=140737488355328)(hs:SL.Sep ro I)(hQ:∀ I',Q (aec b) I'):aax B ro a0 I Q:=by
 refine akD fun _=>?_
 unfold aeB
 refine qr (tag:=T7) 29 hs fun X tag1 I1 st1 x1=>?_
 have rd1:vq tag1 I1 29 X a0 b ⟨b,0⟩:=⟨0,Nat.zero_le _,z7,x1⟩
 refine rdnum_ok rd1 hr hl fun I2 k2 rd2=>?_
 have er:aec b=match adj (qa ⟨b,0⟩).1 (qa ⟨b,0⟩).2 ([],0)with
  | none=>false
  | some r=>decide (r.err=0) && decide (r.rest.length=0):=rfl
 have hb:=km ⟨b,0⟩
 have bad:adj (qa ⟨b,0⟩).1 (qa ⟨b,0⟩).2 ([],0)=none->∀ I',Q false I':=fun e I'=>by
  have:=hQ I'
  rw[er,e]at this
  exact this
 suffices∀k i xr (bef:Str×Int) tag1 I1,i+k=(qa ⟨b,0⟩).1->adj k xr bef=adj (qa ⟨b,0⟩).1 (qa ⟨b,0⟩).2 ([],0)->SL.Sep ro I1->vq tag1 I1 29 X a0 b xr->lfpD (yU B ro X ((qa ⟨b,0⟩).1:Nat) Q) (S bef.1,bef.2,(i:Int)) I1 from
  this _ 0 _ ([],0) tag1 I2 (mp _) rfl k2.sep rd2
 intro k
 induction k with
 | zero=>
  intro i xr bef tag1 I1 hi hx hs1 rd
  refine lfpD.intro ?_
  unfold yU
  simp only
  rw[mc z6]
  unfold abQ
  have e:aec b=(decide (xr.err=0) && decide (xr.rest.length=0)):=by rw[er,<-hx];try rfl
  refine⟨xr.err,rd.err hs1,?_⟩
  by_cases c:xr.err=0
  .rw[me c]
   refine aed rd hr hl ?_
   unfold yT
   have:decide (((xr.rest.length:Nat):Int)=0)=aec b:=by
    rw[e,mF c,Bool.true_and]
    exact Lh.2 z6
   rw[this]
   exact hQ _
  .rw[mc c]
   unfold yT
   have:false=aec b:=by rw[e,mL c];try rfl
   rw[this]
   exact hQ _
 | succ k ih=>
  intro i xr bef tag1 I1 hi hx hs1 rd
  rw[adj]at hx
  refine lfpD.intro ?_
  generalize hY:lfpD (yU B ro X ((qa ⟨b,0⟩).1:Nat) Q)=Y0 at ih⊢
  unfold yU
  simp only
  rw[me z6]
  refine jL z8 rd hr hc hl fun d tag2 I2 k2 rd2 d2=>?_
  refine abO (d2.read k2.sep) ⟨_,rfl,?_⟩
  refine rdnum_ok rd2 hr hl fun I3 k3 rd3=>?_
  refine rdnum_ok rd3 hr hl fun I4 k4 rd4=>?_
  refine rdnum_ok rd4 hr hl fun I5 k5 rd5=>?_
  have ek:wJ xr=(((rblob xr).1,((qa (rblob xr).2).1:Int)),(qa (rblob xr).2).2):=rfl
  have hlen:(rblob xr).1.length<=140737488355328:=by
   have h1:=(yz xr).2
   obtain⟨p,_,h2,_⟩:=rd
   have:=mi List.length h2
   rw[Lg]at this
   omega
  rw[ek]at hx
  simp only at hx
  generalize (rblob xr).1=home at hx hlen⊢
  generalize ((qa (rblob xr).2).1:Int)=num at hx⊢
  have b1:=km (qa (rblob xr).2).2
  have b2:=km (qa (qa (rblob xr).2).2).2
  generalize (qa (qa (rblob xr).2).2).1=acked at hx b1⊢
  generalize (qa (qa (qa (rblob xr).2).2).2).1=last at hx b2⊢
  generalize (qa (qa (qa (rblob xr).2).2).2).2=x5 at hx rd5⊢
  have hs5:=k5.sep
  clear rd rd2 rd3 rd4 k2 k3 k4 k5 d2 ek
  refine⟨_,rd5.err hs5,?_⟩
  have no23:∀ I',(x5.err≠0\/wQ (home,num) (47::home,1)≠0\/¬ wh bef (home,num)<0\/last<acked\/32<last - acked)->Q false I':=fun I' h=>by
   rw[me h]at hx
   exact bad hx.symm I'
  by_cases c1:¬ x5.err=0
  .rw[me c1]
   unfold yj
   rw[me rfl]
   unfold kr
   rw[me (.inl (.inl rfl))]
   exact no23 _ (.inl c1)
  rw[mc c1]
  refine⟨?_,?_⟩
  .have:(S home).size=home.length:=by rw[<-wT,L_S]
   rw[this]
   show 1+home.length<=_
   omega
  rw[show(⟨#[47]⟩:ByteArray)++S home=S (47::home)from uY [47] home]
  refine ah7 (tag:=tag2) (k:=(home,num)) (m:=(47::home,1)) hs5 fun tag6 I6 k6=>?_
  have rd6:=rd5.keep k6
  have hs6:=k6.sep
  clear rd5
  unfold yj
  by_cases c2:¬ wQ (home,num) (47::home,1)=0
  .rw[me (j1 c2)]
   unfold kr
   rw[me (.inl (.inl rfl))]
   exact no23 _ (.inr (.inl c2))
  rw[mc (j1 c2)]
  have cless:zD (S bef.1) (S home)=true↔bef.1<home:=by have:=afQ (S bef.1) (S home);rwa [L_S,L_S]at this
  suffices h23:∀ bb:Bool,(bb=true↔¬ wh bef (home,num)<0)->kr B ro (i:Int) X ((qa ⟨b,0⟩).1:Nat) (S home) num (acked:Nat) (last:Nat) Q Y0 bb I6 by
   by_cases c3:bef.1<home
   .rw[me (cless.2 c3)]
    unfold yi
    exact h23 _ ⟨(fun h=>by cases h),fun h=>mC (yY.2 (.inl c3)) h⟩
   .rw[mc (fun h=>c3 (cless.1 h))]
    unfold yi
    refine h23 _ ⟨fun h hn=>?_,fun h=>?_⟩
    .rcases yY.1 hn with h1 | ⟨h1,h2⟩
     .exact c3 h1
     .simp only at h1 h2
      rw[mF (by rw[h1]),mF h2]at h
      cases h
    .rw[yY,not_or]at h
     cases hh:(decide (S bef.1=S home) && decide (bef.2<num))with
     | false=>rfl
     | true=>
      rw[mv]at hh
      exact mC ⟨yu.1 (nJ hh.1),nJ hh.2⟩ h.2
  intro bb hbb
  unfold kr
  by_cases c3:¬ wh bef (home,num)<0
  .rw[me (.inl (.inl (hbb.2 c3)))]
   exact no23 _ (.inr (.inr (.inl c3)))
  by_cases c4:last<acked
  .rw[me (.inl (.inr z6))]
   exact no23 _ (.inr (.inr (.inr (.inl c4))))
  rw[SL.qM z6 z6]
  by_cases c5:32<last - acked
  .rw[me (.inr z6)]
   exact no23 _ (.inr (.inr (.inr (.inr c5))))
  rw[mc (by rintro((h | h) | h);exact c3 (hbb.1 h);omega;omega)]
  rw[mc (by rintro(h | h | h | h | h);exact c1 h;exact c2 h;exact c3 h;exact c4 h;exact c5 h)]at hx
  clear no23 c1 c2 hbb
  suffices∀c j xs tag7 I7,acked+j+c=last->afv (home,num) c xs=afv (home,num) (last - acked) x5->SL.Sep ro I7->vq tag7 I7 29 X a0 b xs->
    lfpD (yh B ro (i:Int) X ((qa ⟨b,0⟩).1:Nat) (S home) num (acked:Nat) (last:Nat) Q Y0) ((acked+j:Nat):Int) I7 from
   this (last - acked) 0 x5 tag6 I6 z6 rfl hs6 rd6
  intro c
  induction c with
  | succ c ih'=>
   intro j xs tag7 I7 hj hd hs7 rd7
   rw[afv]at hd
   refine lfpD.intro ?_
   generalize hZ:lfpD (yh B ro (i:Int) X ((qa ⟨b,0⟩).1:Nat) (S home) num (acked:Nat) (last:Nat) Q Y0)=Z0 at ih'⊢
   unfold yh
   rw[me z6]
   refine rdnum_ok rd7 hr hl fun I8 k8 rd8=>?_
   refine jL z8 rd8 hr hc hl fun d tag9 I9 k9 rd9 d9=>?_
   refine abO (d9.read k9.sep) ⟨_,rfl,?_⟩
   have he:zu xs=((((qa xs).1:Int),(rblob (qa xs).2).1),(rblob (qa xs).2).2):=rfl
   rw[he]at hd
   generalize ((qa xs).1:Int)=kind at hd⊢
   generalize (rblob (qa xs).2).1=p at hd⊢
   generalize (rblob (qa xs).2).2=x9 at hd rd9
   simp only at hd
   have hs9:=k9.sep
   have fail:(x9.err≠0\/kind<1\/4<kind\/wQ (home,num) (p,1)≠0)->∀ I',Q false I':=fun h I'=>by
    rw[me h]at hd
    rw[<-hd]at hx
    exact bad hx.symm I'
   refine⟨_,rd9.err hs9,?_⟩
   by_cases d1:(¬x9.err=0\/kind<1)\/4<kind
   .rw[me d1]
    unfold yg
    rw[me rfl]
    rcases d1 with(h | h) | h
    .exact fail (.inl h) _
    .exact fail (.inr (.inl h)) _
    .exact fail (.inr (.inr (.inl h))) _
   rw[mc d1]
   refine ah7 (tag:=tag9) (k:=(home,num)) (m:=(p,1)) hs9 fun taga Ia ka=>?_
   unfold yg
   by_cases d2:¬ wQ (home,num) (p,1)=0
   .rw[me (j1 d2)]
    exact fail (.inr (.inr (.inr d2))) _
   rw[mc (j1 d2)]
   rw[mc (by rintro(h | h | h | h);exact d1 (.inl (.inl h));exact d1 (.inl (.inr h));exact d1 (.inr h);exact d2 h)]at hd
   rw[Pa.inc (acked+j) z6]
   exact ih' (j+1) x9 taga Ia z6 hd ka.sep (rd9.keep ka)
  | zero=>
   intro j xs tag7 I7 hj hd hs7 rd7
   refine lfpD.intro ?_
   unfold yh
   rw[mc z6]
   rw[<-hd]at hx
   simp only[afv]at hx
   unfold abh
   refine rdnum_ok rd7 hr hl fun I8 k8 rd8=>?_
   have b3:=km xs
   generalize (qa xs).1=mk at hx b3⊢
   generalize (qa xs).2=x8 at hx rd8⊢
   have hs8:=k8.sep
   refine⟨_,rd8.err hs8,?_⟩
   rw[SL.qM (n:=(last:Int) - acked) z6 z6,SL.qM z6 z6]
   have fail:(x8.err≠0\/32<mk\/32<last - acked+mk\/(mk=0/\last=0))->∀ I',Q false I':=fun h I'=>by
    rw[me h]at hx
    exact bad hx.symm I'
   by_cases d1:¬ x8.err=0\/32<mk\/32<last - acked+mk
   .rw[me (by
     rcases d1 with h | h | h
     .exact .inl (.inl h)
     .exact .inl (.inr z6)
     .exact .inr z6)]
    unfold yf
    rw[me rfl]
    rcases d1 with h | h | h
    .exact fail (.inl h) _
    .exact fail (.inr (.inl h)) _
    .exact fail (.inr (.inr (.inl h))) _
   rw[mc (by
    rintro((h | h) | h)
    .exact d1 (.inl h)
    .exact d1 (.inr (.inl z6))
    .exact d1 (.inr (.inr z6)))]
   unfold yf
   by_cases d2:mk=0/\last=0
   .rw[me (by rw[mF z6,mF z6];try rfl)]
    exact fail (.inr (.inr (.inr d2))) _
   rw[mc (by
    intro h
    rw[mv]at h
    have h1:=nJ h.1
    have h2:=nJ h.2
    exact d2 ⟨z6,z6⟩)]
   rw[mc (by rintro(h | h | h | h);exact d1 (.inl h);exact d1 (.inr (.inl h));exact d1 (.inr (.inr h));exact d2 h)]at hx
   refine acj (tag:=tag7) 18 hs8 rfl (by simp[qk]) fun P tagp Ip stp yp=>?_
   clear fail
   suffices∀e q xs (bm:xq) tagq Iq,q+e=mk->agc (home,num) e xs bm=agc (home,num) mk x8 ([],0)->SL.Sep ro Iq->vq tagq Iq 29 X a0 b xs->Row tagq Iq 18 324 ⟨some ⟨P,0,none⟩,2,2⟩ [.int .i64 bm.2,.string (S bm.1)]->
     lfpD (yb B ro (i:Int) P X ((qa ⟨b,0⟩).1:Nat) (S home) num (mk:Nat) Q Y0) (q:Int) Iq from
    this mk 0 x8 ([],0) tagp Ip (mp _) rfl (stp []).sep (rd8.keep (stp [])) yp
   intro e
   induction e with
   | zero=>
    intro q xs bm tagq Iq hq hd2 hsq rdq yq
    refine lfpD.intro ?_
    unfold yb
    rw[mc z6]
    unfold abg
    rw[Pa.inc i z6]
    rw[<-hd2]at hx
    exact ih (i+1) xs (home,num) tagq Iq z6 hx hsq rdq
   | succ e ihe=>
    intro q xs bm tagq Iq hq hd2 hsq rdq yq
    rw[agc]at hd2
    refine lfpD.intro ?_
    generalize hV:lfpD (yb B ro (i:Int) P X ((qa ⟨b,0⟩).1:Nat) (S home) num (mk:Nat) Q Y0)=V0 at ihe⊢
    unfold yb
    rw[me z6]
    refine rdnum_ok rdq hr hl fun I9 k9 rd9=>?_
    refine acj (tag:=tagq) 19 k9.sep rfl (by simp[qk]) fun Z taga Ia sta za=>?_
    refine jL z8 (rd9.keep (sta [])) hr hc hl fun d tagb Ib kb rdb db=>?_
    refine abO (db.read kb.sep) ⟨_,rfl,?_⟩
    have he:zu xs=((((qa xs).1:Int),(rblob (qa xs).2).1),(rblob (qa xs).2).2):=rfl
    rw[he]at hd2
    generalize ((qa xs).1:Int)=kind at hd2 za⊢
    generalize (rblob (qa xs).2).1=p at hd2⊢
    generalize (rblob (qa xs).2).2=x9 at hd2 rdb
    simp only at hd2
    refine Row.stAt [.string (S p)] 1 (za.keep kb) kb.sep z7 (by simp[qk]) fun Ic kc zc=>?_
    have kqc:qd [29,19] ro tagq Iq tagb Ic:=(k9.mono z7).trans ((sta _).trans ((kb.mono z7).trans (kc.mono z7)))
    have hsc:=kqc.sep
    have yc:=yq.keep kqc
    have rdc:=rdb.keep kc
    have fail:(x9.err≠0\/wQ (home,num) (p,kind)≠0\/¬ wh bm (p,kind)<0)->∀ I',Q false I':=fun h I'=>by
     rw[me h]at hd2
     rw[<-hd2]at hx
     exact bad hx.symm I'
    refine⟨_,rdc.err hsc,?_⟩
    by_cases e1:¬ x9.err=0
    .rw[me e1]
     unfold ya
     rw[me rfl]
     unfold kq
     rw[me rfl]
     exact fail (.inl e1) _
    rw[mc e1]
    have gz:=(zc.read hsc).2.2 _ rfl
    refine⟨kind,by simpa using gz 0 _ rfl,S p,gz 1 _ rfl,?_⟩
    refine ah7 (tag:=tagb) (k:=(home,num)) (m:=(p,kind)) hsc fun tagd Id kd=>?_
    have hsd:=kd.sep
    have yd:=yc.keep kd
    have zd:=zc.keep kd
    have rdd:=rdc.keep kd
    have gy:=(yd.read hsd).2.2 _ rfl
    have gz:=(zd.read hsd).2.2 _ rfl
    unfold ya
    by_cases e2:¬ wQ (home,num) (p,kind)=0
    .rw[me (j1 e2)]
     unfold kq
     rw[me rfl]
     exact fail (.inr (.inl e2)) _
    rw[mc (j1 e2)]
    have j40:∀ bb:Bool,(bb=true↔¬ wh bm (p,kind)<0)->kq B ro (i:Int) P (q:Int) Z X ((qa ⟨b,0⟩).1:Nat) (S home) num (mk:Nat) Q Y0 V0 bb Id:=fun bb hbb=>by
     unfold kq
     by_cases e3:¬ wh bm (p,kind)<0
     .rw[me (hbb.2 e3)]
      exact fail (.inr (.inr e3)) _
     rw[mc (fun h=>e3 (hbb.1 h))]
     rw[mc (by rintro(h | h | h);exact e1 h;exact e2 h;exact e3 h)]at hd2
     refine⟨kind,S p,kT (zd.read hsd) rfl,?_⟩
     refine Row.stPre [.int .i64 kind,.string (S p)] 0 _ Id yd hsd z7 (by simp[qk]) fun Ie ke ye=>?_
     rw[Pa.inc q z6]
     exact ihe (q+1) x9 (p,kind) tagd Ie z6 hd2 ke.sep (rdd.keep ke) ye
    refine⟨S bm.1,gy 1 _ rfl,S p,gz 1 _ rfl,?_⟩
    have cl2:zD (S bm.1) (S p)=true↔bm.1<p:=by have:=afQ (S bm.1) (S p);rwa [L_S,L_S]at this
    by_cases e3:bm.1<p
    .rw[me (cl2.2 e3)]
     unfold xQ
     exact j40 _ ⟨(fun h=>by cases h),fun h=>mC (yY.2 (.inl e3)) h⟩
    rw[mc (fun h=>e3 (cl2.1 h))]
    refine⟨S bm.1,gy 1 _ rfl,S p,gz 1 _ rfl,?_⟩
    by_cases e4:bm.1=p
    .rw[me (by rw[e4])]
     refine⟨bm.2,by simpa using gy 0 _ rfl,kind,by simpa using gz 0 _ rfl,?_⟩
     unfold jZ xQ
     by_cases e5:bm.2<kind
     .rw[mF e5]
      exact j40 _ ⟨(fun h=>by cases h),fun h=>mC (yY.2 (.inr ⟨e4,e5⟩)) h⟩
     .rw[mL e5]
      exact j40 _ ⟨(fun _ h=>by rcases yY.1 h with h | ⟨_,h⟩;exact e3 h;exact e5 h),fun _=>rfl⟩
    .rw[mc (by rw[yu];exact e4)]
     unfold jZ xQ
     exact j40 _ ⟨(fun _ h=>by rcases yY.1 h with h | ⟨h,_⟩;exact e3 h;exact e4 h),fun _=>rfl⟩
theorem arN{b:Str}(hr:SL.qU ro I a0 (b.map vU))(hc:a0.len<=a0.cap)(hl:b.length<=140737488355328)(hs:SL.Sep ro I)(hQ:∀ tag' I',(∀R,qd R ro tag I tag' I')->Q (aec b) I'):aax B ro a0 I Q:=by
 refine adE ?_
 have base:aax B (join ro I) a0 (fun _=>none) fun r τ=>SL.Sep (join ro I) τ->qI I τ->Q r (join I τ):=
  rt16_base (hr.all hs) hc hl (fun b o h=>by cases h) fun τ hτ hd=>hQ _ _ (afz (tag1:=T7) hs hd hτ tag)
 exact qc.mono base fun v τ ⟨r,hv,q⟩ h1 h2=>⟨r,hv,q h1 h2⟩
def pr(b c:Nat):Nat:=(b+c)*(b+c)+b
theorem apD{b' c':Nat}(h:pr b c=pr b' c'):b=b'/\c=c':=by
 unfold pr at h
 have key:∀ s s' x x':Nat,x<=s->x'<=s'->s*s+x=s'*s'+x'->¬ s<s':=fun s s' x x' h1 h2 h3 h4=>by
  have:(s+1)*(s+1)<=s'*s':=Nat.mul_le_mul h4 h4
  have e:(s+1)*(s+1)=s*s+2*s+1:=by rw[LJ,Nat.mul_add];omega
  omega
 have h1:=key _ _ _ _ (by omega:b<=b+c) (by omega:b'<=b'+c') h
 have h2:=key _ _ _ _ (by omega:b'<=b'+c') (by omega:b<=b+c) h.symm
 have e:b+c=b'+c':=by omega
 rw[e]at h
 omega
def aee(tag:Nat->Nat)(I:AH)(b:Nat)(home:Str)(c:Nat)(n:Int)(s:xF):Prop:=
 ∃d:Sl,Row tag I (58+64*(pr b c+2)) 83 ⟨some ⟨c,0,none⟩,7,7⟩ [Pa.vS home,vI n,vI s.nonce,vI s.lease,vI s.beats,vI s.req,Sl.v d]/\Row tag I 6 5 d (s.reply.map vU)
def uM(tag:Nat->Nat)(I:AH)(b:Nat)(home:Str)(h:jf):Prop:=
 ∃m cs,Row tag I (56+64*(b+2)) 254 ⟨some ⟨b,0,none⟩,2,2⟩ [vI h.last,.map (some m)]/\ud kI (aee tag I b home) tag I (57+64*(b+2)) m cs h.live
structure pw(tag:Nat->Nat)(I:AH)(T M:Nat)(bs:List Nat)(t:Tbl):Prop where
 cell:Row tag I 55 242 ⟨some ⟨T,0,none⟩,1,1⟩ [.map (some M)]
 map:ud kS (uM tag I) tag I 119 M bs t
def adX(tag:Nat->Nat)(I:AH)(T:Nat)(t:Tbl):Prop:= ∃M bs,pw tag I T M bs t
def evV(e:Int×Int×Str):List Value:=[vI e.1,vI e.2.1,Pa.vS e.2.2]
def ph(tag:Nat->Nat)(I:AH)(b:Nat)(k:Str×Int)(d:xG):Prop:=
 ∃m s,Row tag I (59+64*(b+2)) 310 ⟨some ⟨b,0,none⟩,4,4⟩ [Sl.v s,vI d.acked,vI d.last,.map (some m)]/\qH tag I (61+64*(b+2)) 132 3 s (d.events.map evV)/\wy kSI tag I (60+64*(b+2)) m (d.marks.map fun k=>(k,vI 1))
structure us(tag:Nat->Nat)(I:AH)(T M:Nat)(bs:List Nat)(h:Hub):Prop where
 cell:Row tag I 62 245 ⟨some ⟨T,0,none⟩,1,1⟩ [.map (some M)]
 map:ud kSI (ph tag I) tag I 126 M bs h
def afT(tag:Nat->Nat)(I:AH)(T:Nat)(h:Hub):Prop:= ∃M bs,us tag I T M bs h
section
variable{R C:List Nat}
theorem aee.keep{n:Int}{s:xF}(h:aee tag I b home c n s)(k:qd R ro tag I tag' I')(h1:58+64*(pr b c+2)∉R:=by simp)(h6:6∉R:=by simp):aee tag' I' b home c n s:=by
 obtain⟨d,a,e⟩:=h
 exact⟨d,a.keep k h1,e.keep k h6⟩
theorem uM.keep{h:jf}(i:uM tag I b home h)(k:qd R ro tag I tag' I')(h1:∀ x∈R,x%64=56->x≠56+64*(b+2):=by simp)(h2:∀ x∈R,x%64=57->x≠57+64*(b+2):=by simp)(h3:∀ c,58+64*(pr b c+2)∉R:=by simp)(h6:6∉R:=by simp):uM tag' I' b home h:=by
 obtain⟨m,cs,a,e⟩:=i
 exact⟨m,cs,a.keep k fun hm=>h1 _ hm z6 rfl,e.mono (e.map.keep k fun hm=>h2 _ hm z6 rfl) fun i c n s _ _ hs=>hs.keep k (h3 c) h6⟩
theorem uM.keepS{h:jf}(i:uM tag I b home h)(k:qi C ro tag I tag' I')(hC:56∉C/\57∉C/\58∉C/\6∉C:=by decide):uM tag' I' b home h:=by
 obtain⟨R,hR,k⟩:=k
 refine i.keep k (fun x hx e=>?_) (fun x hx e=>?_) (fun c hx=>?_) fun hx=>?_
 .have:=hR x hx;rw[e]at this;exact mC this hC.1
 .have:=hR x hx;rw[e]at this;exact mC this hC.2.1
 .have:=hR _ hx;rw[show(58+64*(pr b c+2))%64=58 by omega]at this;exact hC.2.2.1 this
 .exact hC.2.2.2 (hR _ hx)
theorem pw.keepS(i:pw tag I T M bs t)(k:qi C ro tag I tag' I')(hC:55∉C/\56∉C/\57∉C/\58∉C/\6∉C:=by decide):pw tag' I' T M bs t:=
 ⟨i.cell.keepS k hC.1,i.map.mono (i.map.map.keepS k hC.1) fun _ b k' h _ _ hh=>hh.keepS k hC.2⟩
theorem adX.keepS(i:adX tag I T t)(k:qi C ro tag I tag' I')(hC:55∉C/\56∉C/\57∉C/\58∉C/\6∉C:=by decide):adX tag' I' T t:=by
 obtain⟨M,bs,i⟩:=i
 exact⟨M,bs,i.keepS k hC⟩
theorem ph.keep(i:ph tag I b k d)(st:qd R ro tag I tag' I')(h1:59+64*(b+2)∉R:=by simp)(h2:60+64*(b+2)∉R:=by simp)(h3:61+64*(b+2)∉R:=by simp):ph tag' I' b k d:=by
 obtain⟨m,s,a,e,f⟩:=i
 exact⟨m,s,a.keep st h1,e.keep st h3,f.keep st h2⟩
theorem ph.keepS(i:ph tag I b k d)(st:qi C ro tag I tag' I')(hC:59∉C/\60∉C/\61∉C:=by decide):ph tag' I' b k d:=by
 obtain⟨R,hR,st⟩:=st
 refine i.keep st (fun hx=>?_) (fun hx=>?_) fun hx=>?_
 .have:=hR _ hx;rw[show(59+64*(b+2))%64=59 by omega]at this;exact hC.1 this
 .have:=hR _ hx;rw[show(60+64*(b+2))%64=60 by omega]at this;exact hC.2.1 this
 .have:=hR _ hx;rw[show(61+64*(b+2))%64=61 by omega]at this;exact hC.2.2 this
theorem us.keepS(i:us tag I T M bs h)(st:qi C ro tag I tag' I')(hC:62∉C/\59∉C/\60∉C/\61∉C:=by decide):us tag' I' T M bs h:=
 ⟨i.cell.keepS st hC.1,i.map.mono (i.map.map.keepS st hC.1) fun _ b k' d _ _ hh=>hh.keepS st hC.2⟩
theorem afT.keepS(i:afT tag I T h)(st:qi C ro tag I tag' I')(hC:62∉C/\59∉C/\60∉C/\61∉C:=by decide):afT tag' I' T h:=by
 obtain⟨M,bs,i⟩:=i
 exact⟨M,bs,i.keepS st hC⟩
end
def afU(tag:Nat->Nat)(I:AH)(W:Nat)(s:Sto):Prop:= ∃(T Tt Th:Nat) (ms:Sl),
 Row tag I 54 153 ⟨some ⟨W,0,none⟩,5,5⟩ [vI s.epoch,Sl.v ms,ptr T,ptr Tt,ptr Th]/\Row tag I 118 3 ms (s.members.map vI)/\vJ tag I 10 T s.tree/\adX tag I Tt s.tbl/\afT tag I Th s.hub
end Zt
namespace Zt
open Go SL G Pa Wi
variable{B:World}[Zd B]{ro I I':AH}{tag tag':Nat->Nat}
abbrev rH(b:Nat):Nat:=56+64*(b+2)
abbrev rL(b:Nat):Nat:=57+64*(b+2)
abbrev rS(b c:Nat):Nat:=58+64*(pr b c+2)
structure afB(b:Nat)(R:List Nat):Prop where
 r6:6∉R
 r55:55∉R
 r119:119∉R
 r56:∀ x∈R,x%64=56->x=rH b
 r57:∀ x∈R,x%64=57->x=rL b
 r58:∀ x∈R,x%64=58->∃ c,x=rS b c
theorem uM.other{R:List Nat}{b b':Nat}{home:Str}{h:jf}(i:uM tag I b' home h)(k:qd R ro tag I tag' I')(hR:afB b R)(hne:b'≠b):uM tag' I' b' home h:=by
 refine i.keep k (fun x hx e e'=>?_) (fun x hx e e'=>?_) (fun c hx=>?_) hR.r6
 .have:=hR.r56 x hx e;unfold rH at this;omega
 .have:=hR.r57 x hx e;unfold rL at this;omega
 .obtain⟨c',e⟩:=hR.r58 _ hx z6
  unfold rS at e
  exact hne (apD (b:=b') (c:=c) (b':=b) (c':=c') z6).1
end Zt
namespace SL
open Go
variable{ro I I':AH}{tag tag':Nat->Nat}{L:List Nat}
theorem arO:join (inR tag L I) (vG tag L I)=I:=by
 funext c;unfold join inR vG
 by_cases e:tag c∈L
 .simp only[e,if_true];cases I c<;>rfl
 .simp[e]
theorem wy.backR{κ:Type}{enc:κ->Value}{tag1:Nat->Nat}{τ:AH}{r b:Nat}{m:List (κ×Value)}(h:wy enc tag1 τ r b m)(hd:qI (inR tag L I) τ):wy enc (aet tag tag1 L I) (join (inR tag L I) τ) r b m:=by
 obtain⟨es,clock,hb,x⟩:=h.obj
 have hn:inR tag L I b=none:=by
  cases e:inR tag L I b with
  | none=>rfl
  | some o=>have:=hd b o e;rw[hb]at this;cases this
 exact⟨by rw[agO hn];exact h.tg,es,clock,by unfold join;rw[hn];exact hb,x⟩
end SL
namespace Zt
open Go SL G Pa Wi
variable{B:World}[Zd B]{ro I I':AH}{tag tag':Nat->Nat}
variable{C L:List Nat}
theorem asC:ql prog 249 (.pointer none) 1 8:=ql.of y0
theorem wt(h:∀ R,qd R ro tag I tag' I'):qi C ro tag I tag' I':=(h []).s z7
theorem pw.fresh{T M:Nat}{bs:List Nat}{t:Tbl}(h:pw tag I T M bs t)(k:∀ R,qd R ro tag I tag' I'):pw tag' I' T M bs t:=h.keepS (wt (C:=[]) k) z7
section
variable{T M:Nat}{bs:List Nat}{t:Tbl}{home:Str}{n:Int}
theorem pw.outR(h:pw tag I T M bs t)(hL:∀ x∈L,x%64∉[55,56,57,58,6]):pw tag (SL.vG tag L I) T M bs t:=by
 have no:∀ x,x%64∈[55,56,57,58,6]->x∉L:=fun x hx hm=>hL x hm hx
 refine⟨h.cell.outR (no 55 z8),h.map.mono (h.map.map.outR (no 119 z8)) fun _ b k' x _ _ hx=>?_⟩
 obtain⟨m,cs,row,map⟩:=hx
 refine⟨m,cs,row.outR (no _ (by rw[show(56+64*(b+2))%64=56 by omega];decide)),map.mono (map.map.outR (no _ (by rw[show(57+64*(b+2))%64=57 by omega];decide))) fun _ c n' s _ _ hx=>?_⟩
 obtain⟨d,r1,r2⟩:=hx
 exact⟨d,r1.outR (no _ (by rw[show(58+64*(pr b c+2))%64=58 by omega];decide)),r2.outR (no 6 z8)⟩
end
end Zt
namespace SL
open Go
variable{P:Program}{B:World}{ro I I':AH}{tag tag':Nat->Nat}{κ:Type}[DecidableEq κ]{enc:κ->Value}
theorem amH{α:Type}(xs:Array α)(a:α)(f:α->α):(xs.push a).modify xs.size f=xs.push (f a):=by
 apply Array.ext_getElem?
 intro i
 rw[Array.getElem?_modify,Array.getElem?_push,Array.getElem?_push]
 by_cases h:xs.size=i
 .subst h;simp
 .rw[mc h,mc (Ne.symm h),mc (Ne.symm h)]
theorem apE(es:Array MapEntry)(e:MapEntry)(h:∀ x∈es.toList,x.born<e.born):(es.push e).findIdx? (fun x=>((x.born:Int) == (e.born:Int)))=some es.size:=by
 rw[Array.findIdx?_push]
 have:es.findIdx? (fun x=>((x.born:Int) == (e.born:Int)))=none:=by
  rw[Array.findIdx?_eq_none_iff]
  intro x hx
  have:=h x (j1 hx)
  simp;omega
 rw[this];simp
theorem adm{t kt et:TypeId}{zv:Value}{n bt r b:Nat}{m:List (κ×Value)}{k:κ}{K:Value->AH->Prop}(hm:wy enc tag I r b m)(hs:Sep ro I)(ht:P.underlying t=some (.map kt et))(hk:aiW P kt enc)(hz:ql P et zv n bt)(hn:qS m k=none)
  (hK:∀ (stamp:Int) I',(∀(w:Value) (K':Unit->AH->Prop),(∀I'',qd [r] ro tag I tag I''->wy enc tag I'' r b (abt m k w)->K' () I'')->awp P ro (Instr.entryStore t (.map (some b)) (.int .i64 stamp) w) K' I')->K (.tuple #[zv,.int .i64 stamp]) I'):
  awp P ro (Instr.mapEntry t (.map (some b)) (enc k)) K I:=by
 obtain⟨es,clock,hb,he,hbn⟩:=hm.obj
 have hro:=hs b _ hb
 unfold Instr.mapEntry
 simp only[qy]
 rw[qF ht]
 refine⟨.map es clock,by unfold rd;rw[hro];exact hb,rfl,?_⟩
 refine hk.check ?_
 refine hk.find he ?_
 rcases agP k m 0 with⟨a,_,d,f⟩ | ⟨j,v,hj,a,_⟩
 .rw[f]
  simp only[bind_assoc']
  rw[acv hz]
  refine⟨.map es clock,hb,rfl,?_⟩
  refine hK (clock:Int) _ fun w K' h=>?_
  unfold Instr.entryStore
  simp only[qy]
  have s1:qd [r] ro tag I tag (upd I b (.map (es.push {key:=enc k,val:=zv,born:=clock}) (clock+1))):=yk hs hm.tg hb
  refine⟨_,by unfold rd;rw[hro];exact qA _ _ _,rfl,?_⟩
  show awp P ro (match(es.push {key:=enc k,val:=zv,born:=clock}).findIdx? (fun e=>((e.born:Int) == (clock:Int)))with
   | some i=>_
   | none=>_) K' _
  rw[apE es {key:=enc k,val:=zv,born:=clock} hbn.lt]
  refine⟨_,qA _ _ _,rfl,?_⟩
  rw[amH]
  refine h _ (s1.trans (yk s1.sep hm.tg (qA _ _ _))) ⟨hm.tg,_,_,qA _ _ _,?_,?_,?_⟩
  .rw[d w,Array.toList_push,mJ,mJ,he];try rfl
  .intro e he'
   rw[Array.toList_push]at he'
   rcases mt.1 he' with h | h
   .have:=hbn.lt e h;omega
   .rw[mK]at h;rw[h];exact Nat.lt_succ_self _
  .rw[Array.toList_push,mJ,List.nodup_append]
   refine⟨hbn.nd,z7,?_⟩
   intro x hx y hy
   obtain⟨e,he',rfl⟩:=my.1 hx
   have:=hbn.lt e he'
   simp at hy;omega
 .rw[hn]at a;cases a
end SL
namespace Zt
open Go SL G Pa Wi
variable{B:World}[Zd B]{ro I I' I'':AH}{tag tag' tag'':Nat->Nat}
theorem afB.app{b:Nat}{R S:List Nat}(h:afB b R)(k:afB b S):afB b (R++S):=by
 refine⟨fun m=>?_,fun m=>?_,fun m=>?_,fun x hx e=>?_,fun x hx e=>?_,fun x hx e=>?_⟩
 .exact(mt.1 m).elim h.r6 k.r6
 .exact(mt.1 m).elim h.r55 k.r55
 .exact(mt.1 m).elim h.r119 k.r119
 .exact(mt.1 hx).elim (fun m=>h.r56 x m e) fun m=>k.r56 x m e
 .exact(mt.1 hx).elim (fun m=>h.r57 x m e) fun m=>k.r57 x m e
 .exact(mt.1 hx).elim (fun m=>h.r58 x m e) fun m=>k.r58 x m e
def py(H:Nat)(ro:AH)(tag:Nat->Nat)(I:AH)(tag':Nat->Nat)(I':AH):Prop:= ∃R,afB H R/\(∀x∈R,x%64∈[16,30,56,57,58])/\qd R ro tag I tag' I'
theorem py.trans{H:Nat}(h:py H ro tag I tag' I')(k:py H ro tag' I' tag'' I''):py H ro tag I tag'' I'':=by
 obtain⟨R,h1,h2,h3⟩:=h
 obtain⟨S,k1,k2,k3⟩:=k
 refine⟨R++S,h1.app k1,fun x hx=>(mt.1 hx).elim (h2 x) (k2 x),(h3.mono fun r hr=>by simp[hr]).trans (k3.mono fun r hr=>by simp[hr])⟩
theorem py.sep{H:Nat}(h:py H ro tag I tag' I'):SL.Sep ro I':=by obtain⟨_,_,_,h⟩:=h;exact h.sep
theorem py.s{H:Nat}(h:py H ro tag I tag' I'):qi [16,30,56,57,58] ro tag I tag' I':=by obtain⟨R,_,h1,h2⟩:=h;exact⟨R,h1,h2⟩
theorem apF{H:Nat}{R:List Nat}(h:∀ x∈R,x=16\/x=30\/x=rH H\/x=rL H\/∃ c,x=rS H c):afB H R/\∀ x∈R,x%64∈[16,30,56,57,58]:=by
 refine⟨⟨fun m=>?_,fun m=>?_,fun m=>?_,fun x hx e=>?_,fun x hx e=>?_,fun x hx e=>?_⟩,fun x hx=>?_⟩
 .rcases h _ m with e | e | e | e | ⟨c,e⟩<;>first | omega | (simp only[rH,rL,rS]at e;omega)
 .rcases h _ m with e | e | e | e | ⟨c,e⟩<;>first | omega | (simp only[rH,rL,rS]at e;omega)
 .rcases h _ m with e | e | e | e | ⟨c,e⟩<;>first | omega | (simp only[rH,rL,rS]at e;omega)
 .rcases h _ hx with e | e | e | e | ⟨c,e⟩<;>simp only[rH,rL,rS]at e⊢ <;>omega
 .rcases h _ hx with e | e | e | e | ⟨c,e⟩<;>simp only[rH,rL,rS]at e⊢ <;>omega
 .rcases h _ hx with e' | e' | e' | e' | ⟨c,e'⟩
  .omega
  .omega
  .simp only[rH]at e';omega
  .simp only[rL]at e';omega
  .exact⟨c,e'⟩
 .rcases h _ hx with e | e | e | e | ⟨c,e⟩
  .rw[e];decide
  .rw[e];decide
  .rw[e,show rH H%64=56 by simp only[rH];omega];decide
  .rw[e,show rL H%64=57 by simp only[rL];omega];decide
  .rw[e,show rS H c%64=58 by simp only[rS];omega];decide
theorem qd.h{H:Nat}{R:List Nat}(k:qd R ro tag I tag' I')(h:∀ x∈R,x=16\/x=30\/x=rH H\/x=rL H\/∃ c,x=rS H c):py H ro tag I tag' I':=⟨R,(apF h).1,(apF h).2,k⟩
theorem amp{H:Nat}(k:∀ R,qd R ro tag I tag' I'):py H ro tag I tag' I':=qd.h (k []) (fun x hx=>by cases hx)
theorem asD:prog.underlying 395=some (.map 3 3):=y0
theorem arn:ql prog 3 (.int .i64 0) 1 8:=ql.of y0
def ahb(l:List (Int×xF)):List (Int×Value):=l.map fun p=>(p.2.nonce,vI p.1)
theorem ak9(l:List (Int×xF)):(ahb l).map (·.1)=l.map (·.2.nonce):=by unfold ahb;rw[Lj];try rfl
theorem apG{l:List (Int×xF)}{k:Int}(h:k∈l.map (·.2.nonce))(hp:∀ p∈l,0<p.1):∃ n:Int,0<n/\qS (ahb l) k=some (vI n):=by
 cases e:qS (ahb l) k with
 | none=>rw[zF,ak9]at e;exact mC h e
 | some v=>
  obtain⟨p,hm,e2⟩:=my.1 (yI e)
  cases e2
  exact⟨p.1,hp p hm,rfl⟩
theorem apH{l:List (Int×xF)}{k:Int}(h:k∉l.map (·.2.nonce)):qS (ahb l) k=none:=by rw[zF,ak9];exact h
theorem aqP{A H m N:Nat}{home:Str}{hl n:Int}{nn:Nat}{x0:Rd}{t0:Nat->Nat}{s0:AH}{Q:Option Addr->AH->Prop}(hn:n=(nn:Int))(hnn:nn<=64)
  (hno:pt hl nn x0 0 []=none->∀ tag' I',py H ro t0 s0 tag' I'->Q none I')
  (hyes:∀ l x',pt hl nn x0 0 []=some (l,x')->∀ cs tag' I',py H ro t0 s0 tag' I'->vd tag' I' 30 A x'->Row tag' I' (rH H) 254 ⟨some ⟨H,0,none⟩,2,2⟩ [vI hl,.map (some m)]->ud kI (aee tag' I' H home) tag' I' (rL H) m cs l->xN B ro (some ⟨A,0,none⟩) H Q I')
  (st0:py H ro t0 s0 tag I) (rd0:vd tag I 30 A x0) (row0:Row tag I (rH H) 254 ⟨some ⟨H,0,none⟩,2,2⟩ [vI hl,.map (some m)]) (map0:ud kI (aee tag I H home) tag I (rL H) m [] []) (non0:wy kI tag I 16 N []):
  lfpD (zT B ro (some ⟨A,0,none⟩) (S home) H n N Q) (0,0) I:=by
 suffices∀k i xr (last:Int) acc cs tag1 I1,i+k=nn->pt hl k xr last acc=pt hl nn x0 0 []->0<=last->(∀p∈acc,0<p.1/\p.1<=last)->py H ro t0 s0 tag1 I1->vd tag1 I1 30 A xr->Row tag1 I1 (rH H) 254 ⟨some ⟨H,0,none⟩,2,2⟩ [vI hl,.map (some m)]->ud kI (aee tag1 I1 H home) tag1 I1 (rL H) m cs acc->wy kI tag1 I1 16 N (ahb acc)->
   lfpD (zT B ro (some ⟨A,0,none⟩) (S home) H n N Q) (last,(i:Int)) I1 from
  this nn 0 x0 0 [] [] tag I (mp _) rfl (Int.le_refl _) (fun p hp=>by cases hp) st0 rd0 row0 map0 non0
 intro k
 induction k with
 | zero=>
  intro i xr last acc cs tag1 I1 hi hr _ _ st rd row map non
  refine lfpD.intro ?_
  unfold zT
  simp only
  rw[mc z6]
  exact hyes acc xr hr.symm cs tag1 I1 st rd row map
 | succ k ih=>
  intro i xr last acc cs tag1 I1 hi hr hlast hacc st rd row map non
  rw[pt]at hr
  refine lfpD.intro ?_
  generalize hY:lfpD (zT B ro (some ⟨A,0,none⟩) (S home) H n N Q)=Y0 at ih⊢
  unfold zT
  simp only
  rw[me z6]
  refine wW rd z8 st.sep fun I2 k2 rd2=>?_
  have st2:py H ro tag1 I1 tag1 I2:=qd.h k2 z7
  refine afJ (tag:=tag1) (fun c=>rS H c) st2.sep fun Z tag3 I3 hroZ hZ st3 r3=>?_
  refine wW (rd2.keep (st3 [])) z8 (st3 []).sep fun I4 k4 rd4=>?_
  refine wW rd4 z8 k4.sep fun I5 k5 rd5=>?_
  refine wW rd5 z8 k5.sep fun I6 k6 rd6=>?_
  refine wW rd6 z8 k6.sep fun I7 k7 rd7=>?_
  refine acN rd7 z8 k7.sep fun d tag8 I8 k8 d8 rd8=>?_
  have k38:qd [30] ro tag3 I3 tag8 I8:=((((k4.trans k5).trans k6).trans k7).trans k8)
  have hx:(rsess xr).2=(rblob (qa (qa (qa (qa (qa xr).2).2).2).2).2).2:=rfl
  have hp:(rsess xr).1=(((qa xr).1:Int),⟨((qa (qa xr).2).1:Int),((qa (qa (qa xr).2).2).1:Int),((qa (qa (qa (qa xr).2).2).2).1:Int),((qa (qa (qa (qa (qa xr).2).2).2).2).1:Int),(rblob (qa (qa (qa (qa (qa xr).2).2).2).2).2).1⟩):=rfl
  have r8:=r3.keep k38 (by simp[rH,rL,rS]<;>omega)
  rw[<-hx]at rd8
  generalize rsess xr=px at hr hx hp rd8
  obtain⟨⟨pn,ps⟩,x9⟩:=px
  simp only[Prod.mk.injEq]at hp
  obtain⟨e1,e2⟩:=hp
  subst e2
  rw[<-e1]at r8
  have hpn:0<=pn:=by rw[e1];exact Int.natCast_nonneg _
  clear e1 hx rd2 rd4 rd5 rd6 rd7
  simp only at hr rd8
  generalize ((qa (qa xr).2).1:Int)=nonce at hr⊢
  generalize ((qa (qa (qa xr).2).2).1:Int)=lease at hr⊢
  generalize ((qa (qa (qa (qa xr).2).2).2).1:Int)=beats at hr⊢
  generalize ((qa (qa (qa (qa (qa xr).2).2).2).2).1:Int)=req at hr⊢
  generalize (rblob (qa (qa (qa (qa (qa xr).2).2).2).2).2).1=reply at hr d8⊢
  refine Row.stAt [vI nonce] 2 r8 k38.sep z7 (by simp[qk]) fun I9 k9 r9=>?_
  refine Row.stAt [vI lease] 3 r9 k9.sep z7 (by simp[qk]) fun Ia ka ra=>?_
  refine Row.stAt [vI beats] 4 ra ka.sep z7 (by simp[qk]) fun Ib kb rb=>?_
  refine Row.stAt [vI req] 5 rb kb.sep z7 (by simp[qk]) fun Ic kc rc=>?_
  refine Row.stAt [Sl.v d] 6 rc kc.sep z7 (by simp[qk,Sl.v]) fun Id kd rd'=>?_
  have rZ:Row tag8 Id (rS H Z) 83 ⟨some ⟨Z,0,none⟩,7,7⟩ [Pa.vS home,vI pn,vI nonce,vI lease,vI beats,vI req,Sl.v d]:=rd'
  have k8d:qd [rS H Z] ro tag8 I8 tag8 Id:=(((k9.trans ka).trans kb).trans kc).trans kd
  have hsd:=kd.sep
  have sd:py H ro tag1 I1 tag8 Id:=st2.trans ((amp st3).trans ((qd.h k38 z7).trans (qd.h k8d (fun x hx=> .inr (.inr (.inr (.inr ⟨Z,j1 hx⟩)))))))
  have kR:qd [30,rS H Z] ro tag1 I1 tag8 Id:=(k2.mono z7).trans ((st3 _).trans ((k38.mono z7).trans (k8d.mono z7)))
  have rdd:=rd8.keep k8d (by simp[rH,rL,rS]<;>omega) (by simp[rH,rL,rS]<;>omega)
  have dd:=d8.keep k8d (by simp[rH,rL,rS]<;>omega)
  have rowd:=row.keep kR (by simp[rH,rL,rS]<;>omega)
  have nond:=non.keep kR (by simp[rH,rL,rS]<;>omega)
  have hZc:Z∉cs:=fun hm=>by
   obtain⟨j,hj,e⟩:=nv hm
   obtain⟨d',a,_⟩:=map.at' j Z _ _ (by rw[mh hj,e]) (mh (by rw[<-map.len];exact hj))
   obtain⟨_,o,ho⟩:=a.tagOf
   have:=(k2.old Z o ho).2
   rw[hZ]at this
   obtain⟨o',ho'⟩:=this
   cases ho'
  have gZ:=(rZ.read hsd).2.2 _ rfl
  have sT:=st.trans sd
  clear k2 st2 st3 r3 k4 k5 k6 k7 k8 k38 r8 k9 ka kb kc kd r9 ra rb rc rd' k8d rd8 d8
  have fail:ag6 last hl (acc.map (·.2.nonce)) (pn,⟨nonce,lease,beats,req,reply⟩)->Q none Id:=fun hb=>by
   rw[me hb]at hr
   exact hno hr.symm tag8 Id sT
  refine⟨pn,gZ 1 _ rfl,?_⟩
  by_cases c1:pn<=last
  .rw[me c1];unfold qv;rw[me rfl];exact fail (.inl c1)
  rw[mc c1]
  refine⟨pn,gZ 1 _ rfl,hl,by simpa using(rowd.read hsd).2.2 _ rfl 0 _ rfl,?_⟩
  by_cases c2:hl<pn
  .rw[me c2];unfold qv;rw[me rfl];exact fail (.inr (.inl c2))
  rw[mc c2]
  refine⟨nonce,gZ 2 _ rfl,?_⟩
  refine aeH fun _=>?_
  unfold aat
  show(if¬(okN nonce=true)then _ else _)
  cases c3:okN nonce with
  | false=>
   rw[me z7];unfold qv;rw[me rfl];exact fail (.inr (.inr (.inl c3)))
  | true=>
  rw[mc z7]
  refine⟨nonce,gZ 2 _ rfl,?_⟩
  refine aaJ (k:=nonce) nond hsd asD (amn u3') arn ?_
  by_cases c4:nonce∈acc.map (·.2.nonce)
  .obtain⟨n',hn',e⟩:=apG c4 fun p hp=>(hacc p hp).1
   rw[e]
   refine⟨n',rfl,?_⟩
   rw[me hn'];unfold qv;rw[me rfl];exact fail (.inr (.inr (.inr (.inl c4))))
  have gn:=apH c4
  rw[gn]
  refine⟨0,rfl,?_⟩
  rw[mc z6]
  refine⟨lease,gZ 3 _ rfl,?_⟩
  by_cases c5:lease<1
  .rw[me c5];unfold qv;rw[me rfl];exact fail (.inr (.inr (.inr (.inr (.inl c5)))))
  rw[mc c5]
  refine⟨lease,gZ 3 _ rfl,?_⟩
  by_cases c6:1048576<lease
  .rw[me c6];unfold qv;rw[me rfl];exact fail (.inr (.inr (.inr (.inr (.inr (.inl c6))))))
  rw[mc c6]
  refine⟨req,gZ 5 _ rfl,?_⟩
  have good:¬ (req=0/\0<reply.length)->qv B ro (some ⟨A,0,none⟩) (S home) H n N (i:Int) Z Q Y0 false Id:=fun c7=>by
   have nb:¬ ag6 last hl (acc.map (·.2.nonce)) (pn,⟨nonce,lease,beats,req,reply⟩):=by
    rintro(h | h | h | h | h | h | h)
    .exact c1 h
    .exact c2 h
    .simp only at h;rw[c3]at h;cases h
    .exact c4 h
    .exact c5 h
    .exact c6 h
    .exact c7 h
   rw[mc nb]at hr
   unfold qv
   rw[mc z7]
   refine⟨some m,(rowd.read hsd).2.2 _ rfl 1 _ rfl,pn,gZ 1 _ rfl,nonce,gZ 2 _ rfl,pn,gZ 1 _ rfl,pn,gZ 1 _ rfl,?_⟩
   have mapd:wy kI tag8 Id (rL H) m (kvP acc cs):=map.map.keep kR (by simp[rH,rL,rS]<;>omega)
   have hnk:qS acc pn=none:=by
    rw[zF]
    intro hmm
    obtain⟨p,hp,e⟩:=my.1 hmm
    have:=(hacc p hp).2
    omega
   have hnv:qS (kvP acc cs) pn=none:=by
    rw[zF,acB _ _ map.len,<-zF];exact hnk
   refine adm (k:=pn) mapd hsd ain (amn u3') asC hnv fun stp Ie store=>?_
   refine⟨none,stp,rfl,?_⟩
   refine store _ _ fun If kf mf=>?_
   have nonf:=nond.keep kf (by simp[rH,rL,rS]<;>omega)
   refine adm (k:=nonce) nonf kf.sep asD (amn u3') arn gn fun stp2 Ig store2=>?_
   refine⟨0,stp2,rfl,?_⟩
   refine store2 _ _ fun Ih kh nh=>?_
   rw[Pa.inc i z6]
   have kfh:qd [rL H,16] ro tag8 Id tag8 Ih:=(kf.mono z7).trans (kh.mono z7)
   have kall:qd [30,rS H Z,rL H,16] ro tag1 I1 tag8 Ih:=(kR.mono z7).trans (kfh.mono z7)
   have hnon:ahb (acc++[(pn,⟨nonce,lease,beats,req,reply⟩)])=abt (ahb acc) nonce (vI pn):=by
    rw[adx _ gn];unfold ahb;simp
   refine ih (i+1) x9 pn (acc++[(pn,⟨nonce,lease,beats,req,reply⟩)]) (cs++[Z]) tag8 Ih z6 hr hpn (fun p hp=>?_) (sT.trans (qd.h kfh z7))
    (rdd.keep kfh (by simp[rH,rL,rS]<;>omega) (by simp[rH,rL,rS]<;>omega)) (rowd.keep kfh (by simp[rH,rL,rS]<;>omega)) ?_ (by rw[hnon];exact nh)
   .rcases mt.1 hp with h | h
    .have:=hacc p h;exact⟨this.1,z6⟩
    .rw[mK.1 h];exact⟨by simp only;omega,Int.le_refl _⟩
   .rw[<-adx _ hnk]
    refine map.add hnk (mf.keep kh (by simp[rH,rL,rS]<;>omega)) hZc ⟨d,rZ.keep kfh (by simp[rH,rL,rS]<;>omega),dd.keep kfh (by simp[rH,rL,rS]<;>omega)⟩ fun j c k' x hc _ hx=>?_
    refine hx.keep kall ?_ (by simp[rH,rL,rS]<;>omega)
    have hcZ:c≠Z:=fun e=>hZc (by rw[<-e];exact nY hc)
    simp only[mD,LE,or_false,not_or,rH,rL,rS]
    refine⟨z6,fun e=>?_,z6,z6⟩
    exact hcZ (apD (b:=H) (c:=c) (b':=H) (c':=Z) z6).2
  by_cases c7:req=0
  .rw[me c7]
   refine⟨d,gZ 6 _ rfl,?_⟩
   have hdl:d.len=reply.length:=by rw[dd.len,ml]
   by_cases c8:0<reply.length
   .rw[show decide (0<(d.len:Int))=true from mF (by rw[hdl];omega)]
    unfold qv;rw[me rfl];exact fail (.inr (.inr (.inr (.inr (.inr (.inr ⟨c7,c8⟩))))))
   .rw[show decide (0<(d.len:Int))=false from mL (by rw[hdl];omega)]
    exact good fun h=>c8 h.2
  .rw[mc c7]
   exact good fun h=>c7 h.1
theorem apI{A:Nat}{home:Str}{x:Rd}{Q:Option Addr->AH->Prop}(rd:vd tag I 30 A x)(hs:SL.Sep ro I)
  (hno:aaG x=none->∀ tag' I',qi [16,30,56,57,58] ro tag I tag' I'->Q none I')
  (hyes:∀ h x',aaG x=some (h,x')->∀ H tag' I',I H=none->py H ro tag I tag' I'->vd tag' I' 30 A x'->uM tag' I' H home h->Q (some ⟨H,0,none⟩) I'):aaO B ro (some ⟨A,0,none⟩) (S home) I Q:=by
 refine aha fun _=>?_
 unfold aa3
 refine wW rd z8 hs fun I0 k0 rd0=>?_
 have hs0:=k0.sep
 intro m hrom hm H hroH hH
 have hHm:H≠m:=fun e=>by rw[e,qA]at hH;cases hH
 have hH0:I0 H=none:=by rw[uv _ _ hHm]at hH;exact hH
 have hHσ:I H=none:=by
  cases e:I H with
  | none=>rfl
  | some o=>obtain⟨o',ho'⟩:=(k0.old H o e).2;rw[hH0]at ho';cases ho'
 have st1:∀ R,qd R ro tag I0 (setTag tag m (rL H)) (upd I0 m (.map #[] 0)):=fun R=>qd.fresh hs0 hrom hm
 have m1:wy kI (setTag tag m (rL H)) (upd I0 m (.map #[] 0)) (rL H) m []:=⟨by simp[setTag],_,_,qA _ _ _,rfl,z7,z7⟩
 have st2:∀ R,qd R ro (setTag tag m (rL H)) (upd I0 m (.map #[] 0)) (setTag (setTag tag m (rL H)) H (rH H)) (upd (upd I0 m (.map #[] 0)) H (.cells #[.int .i64 ((qa x).1:Nat),.map (some m)] 254)):=fun R=>qd.fresh (st1 []).sep hroH hH
 have r2:Row (setTag (setTag tag m (rL H)) H (rH H)) (upd (upd I0 m (.map #[] 0)) H (.cells #[.int .i64 ((qa x).1:Nat),.map (some m)] 254)) (rH H) 254 ⟨some ⟨H,0,none⟩,2,2⟩ [vI ((qa x).1:Nat),.map (some m)]:=
  .inr ⟨H,_,rfl,by simp[setTag],qA _ _ _,z7,rfl,mH _,fun i hi=>by simp⟩
 generalize (setTag (setTag tag m (rL H)) H (rH H))=tag2 at st2 r2⊢
 generalize (upd (upd I0 m (.map #[] 0)) H (.cells #[.int .i64 ((qa x).1:Nat),.map (some m)] 254))=I2 at st2 r2⊢
 have m2:=m1.keep (st2 [])
 have f02:∀ R,qd R ro tag I0 tag2 I2:=fun R=>(st1 R).trans (st2 R)
 refine wW (rd0.keep (f02 [])) z8 (st2 []).sep fun I3 k3 rd3=>?_
 have r3:=r2.keep k3 (by simp[rH,rL,rS]<;>omega)
 have m3:=m2.keep k3 (by simp[rH,rL,rS]<;>omega)
 have s3:py H ro tag I tag2 I3:=(qd.h k0 z7).trans ((amp f02).trans (qd.h k3 z7))
 refine⟨((qa x).1:Nat),by simpa using(r3.read k3.sep).2.2 _ rfl 0 _ rfl,?_⟩
 have ex:aaG x=if(qa x).1<1\/64<(qa (qa x).2).1 then none
  else match pt (qa x).1 (qa (qa x).2).1 (qa (qa x).2).2 0 []with
   | none=>none
   | some (l,r')=>if r'.err≠0 then none else some (⟨(qa x).1,l⟩,r'):=rfl
 by_cases c:(qa x).1<1\/64<(qa (qa x).2).1
 .rw[me z6]
  rw[me c]at ex
  exact hno ex tag2 I3 s3.s
 rw[mc z6]
 rw[mc c]at ex
 refine aeV (tag:=tag2) kI 16 k3.sep fun N tag4 I4 st4 n4=>?_
 have s4:=s3.trans (amp (H:=H) st4)
 refine aqP (t0:=tag) (s0:=I) (home:=home) (m:=m) rfl z6 (fun e tag' I' k=>?_) (fun l x' e cs tag' I' k rd' row' map'=>?_) s4 (rd3.keep (st4 [])) (r3.keep (st4 [])) (ud.nil (m3.keep (st4 []))) n4
 .rw[e]at ex
  exact hno ex tag' I' k.s
 .rw[e]at ex
  simp only at ex
  unfold xN
  refine aeX rd' k.sep ?_
  by_cases c9:x'.err=0
  .rw[mc (j1 c9)]
   rw[mc (j1 c9)]at ex
   exact hyes _ _ ex H tag' I' hHσ k rd' ⟨m,cs,row',map'⟩
  .rw[me c9]
   rw[me c9]at ex
   exact hno ex tag' I' k.s