import Derived.JoinedCond
import Derived.Test.YtomdigihapdhnaaGreatDoorRows
import Derived.Test.YtomdigihapdhnaaGreatDoorXQ
set_option linter.all false
set_option maxRecDepth 99999
set_option maxHeartbeats 0
open Go.IntKind(i64)
open Go.Proofs.Tryz
namespace Go.Proofs.YtomdigihapdhnaaGreatDoor
namespace G
open Go SL
variable{B:World}{ro I:AH}
def xl(B:World)(ro:AH)(Q:Bool->AH->Prop)(u0:Bool)(I:AH):=
 Q u0 I
def kG(B:World)(ro:AH)(Q:Bool->AH->Prop)(u0:Bool)(I:AH):=
 Q u0 I
def xm(B:World)(ro:AH)(Q:Bool->AH->Prop)(u0:Bool)(I:AH):=
 if u0=true then
 acl B ro I fun u1 I=>
 kG B ro Q u1 I
 else
 kG B ro Q false I
def aau(B:World)(ro:AH)(a0:Sl)(I:AH)(Q:Bool->AH->Prop):=
 acZ B ro a0 I fun u0 I=>
 ads B ro u0 I fun u1 u2 I=>
 jI B ro a0 I fun u3 I=>
 if¬(u3=true)then
 if(u1=none)/\(u2=13)then
  acl B ro I fun u4 I=>
  xl B ro Q u4 I
 else
 xl B ro Q false I
 else
 if(¬(u1=none))/\(u2=0)then
 uZ B ro u1 I fun u5 I=>
 ae7 B ro u5 a0 I fun u6 I=>
 xm B ro Q u6 I
 else
 xm B ro Q false I
theorem agv{a0 Q}(h:Sep ro I->aau B ro a0 I Q):acY B ro a0 I Q:=by
 refine zb h func11 ntmps11 fun h=>?_;unfold aau at h;refine zc func16 h ?_;rintro v I ⟨u0,rfl,h⟩;refine zc func41 h ?_;rintro v I ⟨u1,u2,rfl,h⟩;refine zw ?_;refine AW.seq ?_;refine zC func42 h fun u3 I h=>?_;refine AW.iff rfl (qp Iff.rfl) h (fun h=>?_) (fun h=>?_)
 .refine zw ?_;refine zm (afI rfl underlying51 rfl rfl) ?_;refine zw ?_;refine qx 3 u1.isNone [(19,.bool (u1.isNone && (decide (u2=13))))] ?_ ?_ ?_
  .intro e2 hk2
   refine zv e2 ?_;exact hk2 _ (Fe e2)
  .intro e2 hk2
   refine zv e2 ?_;exact hk2 _ (Fe e2)
  intro fr hl
  refine Lfr hl ?_
  refine zw ?_;refine qn 2 (u1.isNone && (decide (u2=13))) (xv vP mg) h (fun fr I=> ∃(u4:Bool),qg [(22,.bool u4)] fr/\xl B ro Q u4 I) ?_ ?_ ?_
  .intro h e6 hk6;refine Lyb rfl rfl rfl rfl e6 (wu rfl func20 rfl rfl rfl (qc.mono h ?_))
   rintro v I ⟨u5,rfl,h⟩;refine zk e6 ?_;exact hk6 _ _ ⟨_,FL,h⟩
  .intro h e6 hk6;refine zv e6 ?_;exact hk6 _ _ ⟨_,FL,h⟩
  rintro fr I ⟨u4,hl,h⟩;unfold xl at h;refine Lfr hl ?_
  exact zr h
 refine zw ?_;refine zm (aq4 rfl underlying51 rfl rfl) ?_;refine zw ?_;refine qx 3 (!u1.isNone) [(0,Sl.v a0),(3,.pointer u1),(28,.bool ((!u1.isNone) && (decide (u2=0))))] ?_ ?_ ?_
 .intro e2 hk2
  refine zv e2 ?_;exact hk2 _ (Fe e2)
 .intro e2 hk2
  refine zv e2 ?_;exact hk2 _ (Fe e2)
 intro fr hl
 refine Lfr hl ?_
 refine zw ?_;refine qn 5 ((!u1.isNone) && (decide (u2=0))) (xv (qp vP) mg) h (fun fr I=> ∃(u6:Bool),qg [(34,.bool u6)] fr/\xm B ro Q u6 I) ?_ ?_ ?_
 .intro h e6 hk6;refine zy e6 ?_;refine Lyb rfl rfl rfl rfl e6 (wu rfl func40 rfl rfl rfl (qc.mono h ?_))
  rintro v I ⟨u7,rfl,h⟩;refine zy e6 ?_;refine Lyb rfl rfl rfl rfl e6 (wu rfl func18 rfl rfl rfl (qc.mono h ?_))
  rintro v I ⟨u8,rfl,h⟩;refine zk e6 ?_;exact hk6 _ _ ⟨_,FL,h⟩
 .intro h e6 hk6;refine zv e6 ?_;exact hk6 _ _ ⟨_,FL,h⟩
 rintro fr I ⟨u6,hl,h⟩;unfold xm at h;refine Lfr hl ?_
 refine zw ?_;refine qn 2 u6 Iff.rfl h (fun fr I=> ∃(u9:Bool),qg [(37,.bool u9)] fr/\kG B ro Q u9 I) ?_ ?_ ?_
 .intro h e12 hk12;refine Lyb rfl rfl rfl rfl e12 (wu rfl func20 rfl rfl rfl (qc.mono h ?_))
  rintro v I ⟨u10,rfl,h⟩;refine zk e12 ?_;exact hk12 _ _ ⟨_,FL,h⟩
 .intro h e12 hk12;refine zv e12 ?_;exact hk12 _ _ ⟨_,FL,h⟩
 rintro fr I ⟨u9,hl,h⟩;unfold kG at h;refine Lfr hl ?_
 exact zr h
end G
namespace SL
open Go
variable{α:Type}{s:Sl}{e t:TypeId}
def aeE(n:Nat)(P:Program)(W:World)(H:Type)(enc:TypeId×Value->H)(t:TypeId)(cs:List Value):Prop:= ∃fuel d ps,DataW.trod enc P W 0 (fun _=>true) true fuel t cs=some (d,ps)/\(d.weights P t).all (· <=reachBytes)=true/\Rows.uptoBulk d<=n
variable{n:Nat}{P:Program}{W:World}{H:Type}{enc:TypeId×Value->H}
theorem aeE.arg{cs:List Value}(h:aeE n P W H enc t cs):Arg P W H enc t cs:=by
 obtain⟨f,d,ps,h1,h2,_⟩:=h
 exact⟨f,d,ps,h1,h2⟩
theorem aeE.slice{a:Option Addr}{len cap:Nat}(ht:P.underlying t=some (.slice e))(h:aeE n P W H enc t [.slice a len cap]):
  (a=none/\len=0/\cap=0)\/∃ x,a=some x/\len<=cap/\len<=n/\∀ j,j<len->∃ cs,cs.length=P.cellsOf e/\(∀i,i<P.cellsOf e->W.cell? ((x.add (j*P.cellsOf e)).add i)=cs[i]?)/\aeE n P W H enc e cs:=by
 obtain⟨fuel,d,ps,hf,hw,hb⟩:=h
 rcases Go.Deep.open_slice ht hf with⟨hcs,_⟩ | ⟨x,l,c,m,k,D,Pl,hcs,_,hl,_,hm,hx,hel⟩
 .simp at hcs;exact .inl hcs
 .simp at hcs
  obtain⟨rfl,rfl,rfl⟩:=hcs
  simp only[Prod.mk.injEq]at hx
  rw[hx.1]at hw hb
  rw[DataW.weights,ht]at hw
  simp only[Rows.uptoBulk]at hb
  simp only[LZ,List.all_append,mv,mV,ml,List.length_range]at hw
  refine .inr ⟨x,rfl,hl,?_,fun j hj=>?_⟩
  .have:=amv ((List.range len).map D)
   simp at this
   omega
  .obtain⟨cs,h1,h2⟩:=hel j (by simp at hm;omega)
   obtain⟨_,h3,h4⟩:=World.cells?_some h1
   have:=aiA (l:=(List.range len).map D) (i:=j) (d:=D j) (by rw[mq,List.getElem?_range hj];try rfl)
   exact⟨cs,h3,h4,k,D j,Pl j,h2,akb (my.2 ⟨j,List.mem_range.2 hj,rfl⟩) hw.2.1,z6⟩
theorem aeE.rows[Inhabited α]{w:Nat}{V:α->List Value}{G:α->Prop}(ht:P.underlying t=some (.slice e))(hw:P.cellsOf e=w)(hV:∀ y,(V y).length=w)(hd:∀ cs,aeE n P W H enc e cs->cs.length=w->∃ y,cs=V y/\G y)(h:aeE n P W H enc t [Sl.v s]):
  ∃l:List α,l.length<=n/\adR (all W) (fun _=>none) w s (l.map V)/\(∀y∈l,G y)/\s.len<=s.cap:=by
 obtain⟨a,len,cap⟩:=s
 rcases aeE.slice ht h with⟨rfl,rfl,rfl⟩ | ⟨x,rfl,hl,hb,hel⟩
 .exact⟨[],z7,⟨rfl,fun _=>rfl,(fun _ h=>by cases h),fun p h=>by cases h⟩,(fun _ h=>by cases h),mH _⟩
 .rw[hw]at hel
  have key:∀ j:Nat,∃y:α,j<len->(∀i,i<w->W.cell? ((x.add (j*w)).add i)=(V y)[i]?)/\G y:=fun j=>by
   by_cases hj:j<len
   .obtain⟨cs,h1,h2,h3⟩:=hel j hj
    obtain⟨y,rfl,hy⟩:=hd cs h3 h1
    exact⟨y,fun _=>⟨h2,hy⟩⟩
   .exact⟨default,fun h=>mC h hj⟩
  obtain⟨f,hf⟩:=Classical.axiomOfChoice key
  have hlen:((List.range len).map f).length=len:=by simp
  refine⟨(List.range len).map f,by rw[hlen];exact hb,⟨z7,(fun h=>by cases h),?_,fun p hp i v hv=>?_⟩,fun y hy=>?_,hl⟩
  .intro z hz
   obtain⟨y,_,rfl⟩:=my.1 hz
   exact hV y
  .cases hp
   have hwid:∀ z∈((List.range len).map f).map V,z.length=w:=fun z hz=>by
    obtain⟨y,_,rfl⟩:=my.1 hz
    exact hV y
   have hfl:=aiU hwid
   rw[ml,hlen]at hfl
   have hi:i<len*w:=by
    rcases mB i (len*w)with h | h
    .exact h
    .rw[mw z6]at hv;cases hv
   have hw0:0<w:=by
    rcases nz w with h | h
    .rw[h]at hi;simp at hi
    .exact h
   have hdm:=Nat.div_add_mod i w
   have hj:i / w<len:=Nat.div_lt_of_lt_mul (by rw[Lk];exact hi)
   have hm:=LQ i hw0
   have he:(((List.range len).map f).map V)[i / w]?=some (V (f (i / w))):=by
    rw[mq,mq,List.getElem?_range hj];try rfl
   have hg:=aiV hwid he hm
   rw[Lk]at hdm
   rw[hdm,hv]at hg
   have:=(hf _ hj).1 _ hm
   rw[aiZ,hdm,<-hg]at this
   exact ap4 _ this
  .obtain⟨j,hj,rfl⟩:=my.1 hy
   exact(hf j (List.mem_range.1 hj)).2
theorem aqZ(f:α->Value)(l:List α):(l.map fun y=>[f y]).flatten=l.map f:=by
 induction l with
 | nil=>rfl
 | cons a l ih=>rw[nx,Pe,ih];try rfl
theorem adR.one{f:α->Value}{l:List α}{ro I:AH}(h:adR ro I 1 s (l.map fun y=>[f y])):qU ro I s (l.map f):=by
 refine⟨by rw[h.1];simp,fun hn=>?_,fun p hp i v hv=>h.2.2.2 p hp i v (by rw[aqZ];exact hv)⟩
 have:=h.2.1 hn
 simpa using this
end SL
namespace Zt
open Go SL G Pa Wi
theorem kI:prog.cellsOf 3=1:=y0
theorem kB:prog.cellsOf 4=1:=y0
theorem kU:prog.cellsOf 5=1:=y0
theorem uDs:prog.underlying 24=some (.slice 5):=y0
theorem uU:prog.underlying 5=some (.int .u8):=y0
theorem uBo:prog.underlying 4=some .bool:=y0
variable{n:Nat}{W:World}{H:Type}{enc:TypeId×Value->H}
instance:Inhabited Sl:=⟨⟨none,0,0⟩⟩
end Zt
namespace Zt
open Go SL G Pa Wi
variable{n:Nat}{W:World}{H:Type}{enc:TypeId×Value->H}
theorem asN{s:Sl}(h:aeE n prog W H enc 24 [Sl.v s]):∃ d:Str,d.length<=n/\SL.qU (all W) (fun _=>none) s (d.map vU)/\s.len<=s.cap:=by
 obtain⟨l,h1,h2,_,h4⟩:=aeE.rows (α:=UInt8) (V:=fun c=>[vU c]) (G:=fun _=>True) uDs kU (fun _=>rfl) (fun cs hc hl=>by
  match cs,hl with
  | [u],_=>
   obtain⟨c,rfl⟩:=Arg.u8 uU hc.arg
   exact⟨c,rfl,trivial⟩) h
 exact⟨l,h1,h2.one,h4⟩
end Zt
namespace Zt
open Go SL G Pa Wi
variable{B:World}[Zd B]{ro I I':AH}{tag tag':Nat->Nat}
variable{Q:Bool->AH->Prop}{a0:Sl}{b:Str}
theorem rbytes_base(hr:SL.qU ro (fun _=>none) a0 (b.map vU))(hc:a0.len<=a0.cap)(hl:b.length<=1048576)(hs:SL.Sep ro I)(hQ:∀ I',Q (xI b).isSome I'):jI B ro a0 I Q:=by
 refine ahx fun _=>?_
 unfold abH
 have hl':b.length<=140737488355328:=by omega
 refine qr (tag:=T7) 29 hs fun X tag1 I1 st1 x1=>?_
 have rd1:vq tag1 I1 29 X a0 b ⟨b,0⟩:=⟨0,Nat.zero_le _,z7,x1⟩
 refine rdnum_ok rd1 hr hl' fun I2 k2 rd2=>?_
 refine rdnum_ok rd2 hr hl' fun I3 k3 rd3=>?_
 have l0:(⟨b,0⟩:Rd).rest.length=b.length:=rfl
 have l1:=uR ⟨b,0⟩
 have l2:=uR (qa ⟨b,0⟩).2
 have l3:=aeT (min (qa (qa ⟨b,0⟩).2).1 8) (qa (qa ⟨b,0⟩).2).2
 have hml:(gnums (min (qa (qa ⟨b,0⟩).2).1 8) (qa (qa ⟨b,0⟩).2).2).1.length<=8:=by rw[ah6];omega
 have ed:xI b=match dec (wl b).tree,pd (wl b).tbl,pf (wl b).hub with
  | some st,some t,some h=>if(wl b).r.err≠0\/0<(wl b).r.rest.length\/zH (wl b).members=false\/¬ afy st t then none else some ⟨(wl b).epoch,(wl b).members,st,t,h⟩
  | _,_,_=>none:=rfl
 have er:wl b=⟨(qa ⟨b,0⟩).1,(gnums (min (qa (qa ⟨b,0⟩).2).1 8) (qa (qa ⟨b,0⟩).2).2).1,
   (rblob (gnums (min (qa (qa ⟨b,0⟩).2).1 8) (qa (qa ⟨b,0⟩).2).2).2).1,
   (rblob (rblob (gnums (min (qa (qa ⟨b,0⟩).2).1 8) (qa (qa ⟨b,0⟩).2).2).2).2).1,
   (rblob (rblob (rblob (gnums (min (qa (qa ⟨b,0⟩).2).1 8) (qa (qa ⟨b,0⟩).2).2).2).2).2).1,
   (rblob (rblob (rblob (gnums (min (qa (qa ⟨b,0⟩).2).1 8) (qa (qa ⟨b,0⟩).2).2).2).2).2).2⟩:=rfl
 rw[er]at ed
 have hs3:=k3.sep
 have hbn:=km (qa ⟨b,0⟩).2
 generalize (qa (qa ⟨b,0⟩).2).1=N at ed l3 hml hbn⊢
 generalize (qa (qa ⟨b,0⟩).2).2=x2 at ed l2 l3 hml rd3
 generalize (qa ⟨b,0⟩).1=ep at ed
 clear er
 simp only at ed
 suffices∀k j (s:Sl) (l:List Int) (z:Rd) tag2 I2,j+k=min N 8->l.length=j->(l++(gnums k z).1,(gnums k z).2)=gnums (min N 8) x2->SL.Sep ro I2->vq tag2 I2 29 X a0 b z->Row tag2 I2 18 3 s (l.map vI)->lfpD (xR B ro X (N:Nat) Q) (s,(j:Int)) I2 from
  this _ 0 ⟨none,0,0⟩ [] x2 tag1 I3 (mp _) rfl z7 hs3 rd3 (Row.nil _ _)
 clear rd1 rd2 rd3 k2 k3
 intro k
 induction k with
 | succ k ih=>
  intro j s l z tag2 I2 hj hln hg hs2 rd r
  refine lfpD.intro ?_
  unfold xR
  simp only
  rw[me ⟨z6,z6⟩]
  refine rdnum_ok rd hr hl' fun I4 k4 rd4=>?_
  refine qr (tag:=tag2) 0 k4.sep fun w tag5 I5 st5 w5=>?_
  have hs5:=(st5 []).sep
  refine adO ((r.keep k4).keep (st5 [])) hs5 alL amo rfl (by simp[qk]) ((w5.read hs5).2.2 _ rfl 0 (.int .i64 ((qa z).1:Nat)) rfl) rfl (by rw[ml];omega) z8 fun s' tag6 I6 st6 r6=>?_
  refine⟨s',rfl,?_⟩
  rw[Pa.inc j z6]
  refine ih (j+1) s' (l++[((qa z).1:Int)]) (qa z).2 tag6 I6 z6 (by simp[hln]) ?_ st6.sep ((rd4.keep (st5 [])).keep st6) (by rw[mJ];exact r6)
  rw[<-hg];simp[gnums]
 | zero=>
  intro j s l z tag2 I2 hj hln hg hs2 rd r
  refine lfpD.intro ?_
  unfold xR
  simp only
  rw[mc (by rintro⟨h1,h2⟩;omega)]
  have h1:l=(gnums (min N 8) x2).1:=by rw[<-hg];simp[gnums]
  have h2:z=(gnums (min N 8) x2).2:=by rw[<-hg];simp[gnums]
  rw[<-h1,<-h2]at ed
  rw[<-h2]at l3
  rw[<-h1]at hml
  clear h1 h2 hg
  have l4:=yz z
  have l5:=yz (rblob z).2
  have l6:=yz (rblob (rblob z).2).2
  unfold pz
  refine jL z8 rd hr hc hl' fun d1 tag3 I3 k3 rd3 b1=>?_
  refine jL z8 rd3 hr hc hl' fun d2 tag4 I4 k4 rd4 b2=>?_
  refine jL z8 rd4 hr hc hl' fun d3 tag5 I5 k5 rd5 b3=>?_
  have m5:=((r.keep k3).keep k4).keep k5
  have p1:=(b1.keep k4).keep k5
  have p2:=b2.keep k5
  have hs5:=k5.sep
  have t1:(rblob z).1.length<=1048576:=by omega
  have t2:(rblob (rblob z).2).1.length<=1048576:=by omega
  have t3:(rblob (rblob (rblob z).2).2).1.length<=1048576:=by omega
  generalize rblob (rblob (rblob z).2).2=y3 at ed rd5 b3 t3
  generalize rblob (rblob z).2=y2 at ed p2 t2
  generalize rblob z=y1 at ed p1 t1
  clear rd rd3 rd4 b1 b2 k3 k4 k5 r l4 l5 l6
  have falseQ:xI b=none->∀ I',Q false I':=fun e I'=>by
   have:=hQ I'
   rw[e]at this
   exact this
  have c16:xI b=none->∀ I',zV B ro d1 d2 Q true I':=fun e I'=>by
   unfold zV;rw[me rfl];exact falseQ e I'
  have c14:xI b=none->∀ I',zW B ro d1 d2 d3 Q true I':=fun e I'=>by
   unfold zW;rw[me rfl];exact c16 e I'
  have c12:xI b=none->∀ I',zX B ro d1 d2 d3 Q true I':=fun e I'=>by
   unfold zX;rw[me rfl];exact c14 e I'
  have c10:xI b=none->∀ I',zY B ro s d1 d2 d3 Q true I':=fun e I'=>by
   unfold zY;rw[me rfl];exact c12 e I'
  have noneE:(y3.2.err≠0\/0<y3.2.rest.length\/zH l=false)->xI b=none:=fun h=>by
   rw[ed]
   split
   .rw[me (by rcases h with h | h | h;exact .inl h;exact .inr (.inl h);exact .inr (.inr (.inl h)))]
   .rfl
  refine⟨y3.2.err,rd5.err hs5,?_⟩
  by_cases e1:¬ y3.2.err=0
  .rw[me e1]
   exact c10 (noneE (.inl e1)) _
  rw[mc e1]
  refine aed rd5 hr hl' ?_
  by_cases e2:0<y3.2.rest.length
  .rw[show(!(decide (((y3.2.rest.length:Nat):Int)=0)))=true by rw[mL z6];try rfl]
   exact c10 (noneE (.inr (.inl e2))) _
  rw[show(!(decide (((y3.2.rest.length:Nat):Int)=0)))=false by rw[mF z6];try rfl]
  unfold zY
  rw[mc z7]
  refine ar0 (m5.read hs5) z6 ?_
  cases e3:zH l with
  | false=>exact c12 (noneE (.inr (.inr e3))) _
  | true=>
  unfold zX
  rw[mc z7]
  refine arM (tag:=tag5) (p2.read hs5) (Row.cap p2) z6 hs5 fun tag6 I6 k6=>?_
  rw[aof]
  cases q2:pd y2.1 with
  | none=>
   rw[q2]at ed
   exact c14 (by rw[ed];cases dec y1.1<;>rfl) _
  | some t=>
  unfold zW
  rw[mc z7]
  have p1:=p1.keep (k6 [])
  have p2:=p2.keep (k6 [])
  have p3:=b3.keep (k6 [])
  refine arN (tag:=tag6) (p3.read (k6 []).sep) (Row.cap p3) z6 (k6 []).sep fun tag7 I7 k7=>?_
  rw[aog]
  cases q3:pf y3.1 with
  | none=>
   rw[q2,q3]at ed
   exact c16 (by rw[ed];cases dec y1.1<;>rfl) _
  | some hu=>
  unfold zV
  rw[mc z7]
  have p1:=p1.keep (k7 [])
  have p2:=p2.keep (k7 [])
  have hs7:=(k7 []).sep
  refine asJ (tag:=tag7) (p1.read hs7) hs7 (Row.cap p1) t1 (fun q1 U tag8 I8 k8=>?_) fun st q1 U tag8 I8 k8 hU=>?_
  .rw[me z7]
   exact falseQ (by rw[ed,q1]) _
  rw[mc z7]
  rw[q1,q2,q3]at ed
  simp only at ed
  have p2:=p2.keep (k8 [])
  have hs8:=(k8 []).sep
  refine qr (tag:=tag8) 28 hs8 fun Y tag9 I9 st9 y9=>?_
  have hs9:=(st9 []).sep
  have p2:=p2.keep (st9 [])
  have rdY:vq tag9 I9 28 Y d2 y2.1 ⟨y2.1,0⟩:=⟨0,Nat.zero_le _,z7,y9⟩
  refine afV (tag:=tag9) z8 rdY p2 hs9 z6 fun taga Ia ka rda=>?_
  obtain⟨_,tg,te⟩:=ai5 q2
  have tw:ag4 t:=tg.w te t2
  have twl:=tw.len
  have e0:qa ⟨y2.1,0⟩=(t.length,⟨t.flatMap vv,0⟩):=by
   have:=aag (n:=t.length) z6 (t.flatMap vv)
   rw[<-te]at this
   exact this
  rw[e0]at rda⊢
  have hUa:=(hU.keepS (wt (C:=[]) st9) z7 z7).keepS (ka.s (C:=[28]) z7)
  have hst:st.length<=4294967296:=by have:=(ag7 q1 z6).2.2;omega
  have y2l:y2.1.length<=140737488355328:=by omega
  suffices∀k i xr tag I,i+k=t.length->xr=⟨(t.drop i).flatMap vv,0⟩->(∀p∈t.take i,p.2.live≠[]->(st.lookup (47::p.1)).isSome=true)->SL.Sep ro I->vq tag I 28 Y d2 y2.1 xr->Row tag I 6 5 d2 (y2.1.map vU)->je tag I 11 U st->lfpD (vY B ro (some ⟨U,0,none⟩) Y Q) (k:Int) I from
   this _ 0 _ taga Ia (mp _) rfl (fun p hp=>by simp at hp) ka.sep rda (p2.keep ka) hUa
  clear hUa rda ka rdY y9 st9 hU k8 k7 k6 p3 b3 p1 m5
  intro k
  induction k with
  | zero=>
   intro i xr tag I hi hx ha hs rd row hU
   refine lfpD.intro ?_
   unfold vY
   rw[mc z6]
   unfold yD
   have hh:afy st t:=fun p hp hne=>ha p (by rw[mT z6];exact hp) hne
   have:=hQ I
   rw[ed,mc (by
    rintro(h | h | h | h)
    .exact e1 h
    .exact e2 h
    .rw[e3]at h;cases h
    .exact h hh)]at this
   exact this
  | succ k ih=>
   intro i xr tag I hi hx ha hs rd row hU
   have hil:i<t.length:=by omega
   have edr:t.drop i=t[i]::t.drop (i+1):=List.drop_eq_getElem_cons hil
   have etk:t.take (i+1)=t.take i++[t[i]]:=by rw[np,mh hil];try rfl
   have hm:t[i]∈t:=mO hil
   generalize t[i]=p at edr etk hm
   have hnm:=tg.names _ hm
   have hho:=tg.ok _ hm
   have hpl:=tw.names _ hm
   rw[edr,na,show vv p=ue p.1++(qO p.2.last.toNat++(qO p.2.live.length++p.2.live.flatMap yy))from rfl]at hx
   simp only[mI]at hx
   have f1:rblob xr=(p.1,⟨qO p.2.last.toNat++(qO p.2.live.length++(p.2.live.flatMap yy++(t.drop (i+1)).flatMap vv)),0⟩):=by rw[hx];exact akT z6 _
   have hla:=hho.last
   have hli:=hho.len
   have f2:=aag (n:=p.2.last.toNat) z6 (qO p.2.live.length++(p.2.live.flatMap yy++(t.drop (i+1)).flatMap vv))
   have f3:=aag (n:=p.2.live.length) z6 (p.2.live.flatMap yy++(t.drop (i+1)).flatMap vv)
   have f4:=apS p.2.live ((t.drop (i+1)).flatMap vv) hho.live.ok
   refine lfpD.intro ?_
   generalize hZ:lfpD (vY B ro (some ⟨U,0,none⟩) Y Q)=Z0 at ih⊢
   unfold vY
   rw[me z6]
   refine aj5 (tag:=tag) z8 rd row hs y2l fun d tag1 I1 k1 rd1 d1=>?_
   rw[f1]at rd1 d1
   refine abO (d1.read k1.sep) ⟨_,rfl,?_⟩
   have row1:=row.keep k1
   refine afV (tag:=tag1) z8 rd1 row1 k1.sep y2l fun tag2 I2 k2 rd2=>?_
   rw[f2]at rd2
   have row2:=row1.keep k2
   refine afV (tag:=tag2) z8 rd2 row2 k2.sep y2l fun tag3 I3 k3 rd3=>?_
   rw[f3]at rd3⊢
   have row3:=row2.keep k3
   have hU3:=hU.keepS (((k1.trans k2).trans k3).s (C:=[28]) z7)
   have hs3:=k3.sep
   have skip:(p.2.live≠[]->(st.lookup (47::p.1)).isSome=true)->zU B ro ((k+1:Nat):Int) (some ⟨U,0,none⟩) Y (p.2.live.length:Nat) Q Z0 false I3:=fun hh=>by
    unfold zU
    rw[mc z7]
    refine aqW (n:=64) (t0:=tag3) (s0:=I3) y2l (mH _) p.2.live.length _ tag3 I3 hli hs3 (qd.refl hs3) rd3 row3 fun tag4 I4 k4 rd4 row4=>?_
    rw[show i64.wrap (((k+1:Nat):Int) - 1)=(k:Int)from by rw[SL.qM z6 z6];omega]
    refine ih (i+1) _ tag4 I4 z6 f4 (fun p' hp' hne=>?_) k4.sep rd4 row4 (hU3.keepS (k4.s (C:=[28]) z7))
    rw[etk]at hp'
    rcases mt.1 hp' with h | h
    .exact ha p' h hne
    .rw[mK.1 h]at hne⊢
     exact hh hne
   by_cases g1:0<p.2.live.length
   .rw[me (show(0:Int)<((p.2.live.length:Nat):Int) by omega)]
    refine⟨?_,?_⟩
    .have:(S p.1).size=p.1.length:=by rw[<-wT,L_S]
     rw[this]
     show 1+p.1.length<=_
     omega
    rw[show(⟨#[47]⟩:ByteArray)++S p.1=S (47::p.1)from uY [47] p.1]
    refine al6 (hU3.m hs3) hst ?_
    rcases al8 (l:=st) (k:=47::p.1) 0 with⟨g2,g3⟩ | ⟨j',nd,_,g2,g3⟩
    .rw[g3,mF z8]
     unfold zU
     rw[me rfl]
     refine falseQ ?_ _
     rw[ed,me]
     refine .inr (.inr (.inr fun hh=>?_))
     have:=hh _ hm (fun e=>by rw[e]at g1;simp at g1)
     rw[g2]at this;cases this
    .rw[g3,mL z6]
     exact skip fun _=>by rw[g2];try rfl
   .rw[mc z6]
    exact skip fun hne=>mC (nr.2 hne) g1
theorem ale(hr:SL.qU ro I a0 (b.map vU))(hc:a0.len<=a0.cap)(hl:b.length<=1048576)(hs:SL.Sep ro I)(hQ:∀ tag' I',(∀R,qd R ro tag I tag' I')->Q (xI b).isSome I'):jI B ro a0 I Q:=by
 refine adE ?_
 have base:jI B (join ro I) a0 (fun _=>none) fun r τ=>SL.Sep (join ro I) τ->qI I τ->Q r (join I τ):=
  rbytes_base (hr.all hs) hc hl (fun b o h=>by cases h) fun τ hτ hd=>hQ _ _ (afz (tag1:=T7) hs hd hτ tag)
 exact qc.mono base fun v τ ⟨r,hv,q⟩ h1 h2=>⟨r,hv,q h1 h2⟩
theorem amM{s:Sto}(h:xI b=some s)(hb:b.length<=1048576):(∀p∈s.tree,p.1.length<=128/\p.2.data.length<=256)/\s.tree.length<=4294967296:=by
 have l0:(⟨b,0⟩:Rd).rest.length=b.length:=rfl
 have l1:=uR ⟨b,0⟩
 have l2:=uR (qa ⟨b,0⟩).2
 have l3:=aeT (min (qa (qa ⟨b,0⟩).2).1 8) (qa (qa ⟨b,0⟩).2).2
 have l4:=yz (gnums (min (qa (qa ⟨b,0⟩).2).1 8) (qa (qa ⟨b,0⟩).2).2).2
 have et:(wl b).tree=(rblob (gnums (min (qa (qa ⟨b,0⟩).2).1 8) (qa (qa ⟨b,0⟩).2).2).2).1:=rfl
 have lt:(wl b).tree.length<=1048576:=by rw[et];omega
 unfold xI at h
 cases h1:dec (wl b).tree with
 | none=>rw[h1]at h;cases h
 | some st=>
  cases h2:pd (wl b).tbl with
  | none=>rw[h1,h2]at h;cases h
  | some t=>
   cases h3:pf (wl b).hub with
   | none=>rw[h1,h2,h3]at h;cases h
   | some hu=>
    rw[h1,h2,h3]at h
    simp only at h
    split at h
    .cases h
    .cases h
     obtain⟨a1,_,a3⟩:=ag7 h1 z6
     exact⟨a1.inv.small,by simp only;omega⟩
theorem apV(g:xC ro)(hr:SL.qU ro (fun _=>none) a0 (b.map vU))(hc:a0.len<=a0.cap)(hl:b.length<=1048576)(hs:SL.Sep ro I)(hQ:∀ I',Q true I'):acY B ro a0 I Q:=by
 refine agv fun _=>?_
 unfold aau
 have keep:∀ τ,SL.qU ro τ a0 (b.map vU):=fun τ=>hr.hle fun c o h=>by cases h
 refine anb (tag:=T7) (keep I) hs (by rw[ml];omega) (ajF _) fun d tag1 I1 st1 d1=>?_
 have hs1:=(st1 []).sep
 refine arX (tag:=tag1) g (d1.read hs1) hl (fun e tag2 I2 st2=>?_) fun s e W tag2 I2 st2 hW=>?_
 .refine ale (tag:=tag2) (keep I2) hc hl st2.sep fun tag3 I3 k3=>?_
  rw[e,me z7,me ⟨rfl,rfl⟩]
  refine aj4 (tag:=tag3) g fun tag' I' _=>?_
  unfold xl
  exact hQ _
 .refine ale (tag:=tag2) (keep I2) hc hl st2.sep fun tag3 I3 k3=>?_
  rw[e,mc z7,me ⟨z7,rfl⟩]
  obtain⟨he,hw⟩:=aok e hl
  have htr:=amM e hl
  refine aqY (tag:=tag3) (hW.keepS (wt (C:=[]) k3) z7) htr.1 htr.2 hw fun sl tag4 I4 st4 r4=>?_
  refine arC (r4.read st4.sep) (keep I4) ?_
  rw[he,mF rfl]
  unfold xm
  rw[me rfl]
  refine aj4 (tag:=tag4) g fun tag' I' _=>?_
  unfold kG
  exact hQ _
end Zt
namespace Zt
open Go Go.ChangeShapes Go.WideShapes Go.ChangeAt Go.RowKit
theorem aoA:(Rows.storeDecodesUptoRow.inPlace == prog.inPlace 11)=true:=y0
theorem asO:(Rows.storeDecodesUptoRow.unfollowed == prog.unfollowed 11)=true:=y0
theorem asP:(Rows.storeDecodesUptoRow.recurses == prog.recurses 11)=true:=y0
theorem aq0:(Rows.storeDecodesUptoRow.named == prog.varsNamed 11)=true:=y0
theorem ar4:laidOutB prog=true:=amX
theorem apW:joinedFacts prog 11 f11 (Rows.OpenSpec.upto Rows.storeDecodesSpec).bare Rows.storeDecodesUptoRow=true:=by
 unfold joinedFacts
 rw[aoA,asO,asP,aq0,ar4]
 simp only[mv]
 repeat' refine And.intro ?_ ?_
 all_goals first | exact trivial | (as_aux_lemma=>kernel_rfl)