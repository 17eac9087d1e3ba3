import Derived.Test.YtomdigihapdhnaaGreatDoorXN
set_option linter.all false
set_option maxRecDepth 99999
set_option maxHeartbeats 0
open Go.IntKind(i64)
open Go.Proofs.Tryz
namespace Go.Proofs.YtomdigihapdhnaaGreatDoor
namespace SL
open Go
variable{P:Program}{B:World}{ro I I':AH}{tag tag':Nat->Nat}
variable{I1:AH}{C R:List Nat}{tag1:Nat->Nat}
abbrev T7:Nat->Nat:=fun _=>7
theorem qe.hle(st:qe R ro T7 I tag1 I1)(h:7∉R):HLe I I1:=fun b o hb=>(st.keep b o hb h).2
theorem StepS.hle(st:StepS C ro T7 I tag1 I1)(h:7∉C):HLe I I1:=by
 obtain⟨R,h1,h2⟩:=st
 exact h2.hle fun m=>h (h1 7 m)
def aoB(I:AH)(tag tag1:Nat->Nat):Nat->Nat:=fun c=>if(I c).isSome then tag c else tag1 c
theorem StepS.mix(st:StepS C ro T7 I tag1 I1)(h:7∉C)(tag:Nat->Nat):∀ R,qe R ro tag I (aoB I tag tag1) I1:=fun R=>by
 have hl:=st.hle h
 exact⟨fun b o hb _=>⟨by simp[aoB,hb],hl b o hb⟩,fun b o hb=>⟨by simp[aoB,hb],o,hl b o hb⟩,st.sep⟩
theorem amM{p:Addr}{l:List Value}(h:qg ro I p 0 l){i:Nat}{v:Value}(hv:l[i]?=some v):qa ro I (p.add i)=some v:=by
 have gen:∀ (l:List Value) (k i:Nat) (v:Value),qg ro I p k l->l[i]?=some v->qa ro I (p.add (k+i))=some v:=by
  intro l
  induction l with
  | nil=>intro k i v _ hv;cases hv
  | cons x l ih=>
   intro k i v h hv
   cases i with
   | zero=>cases hv;exact h.1
   | succ i=>have:=ih (k+1) i v h.2 (by simpa using hv);rw[<-this];congr 2;omega
 have:=gen l 0 i v h hv
 rwa [Nat.zero_add]at this
end SL
namespace Zt
open Go SL G Pa Wi
variable{B:World}{ro I I':AH}{tag tag':Nat->Nat}
theorem aiu(I:AH)(b:Nat)(x y:Obj):upd (upd I b x) b y=upd I b y:=by
 funext c;unfold upd;split<;>rfl
end Zt
namespace G
open Go SL
variable{B:World}{ro I:AH}
def pY(B:World)(ro:AH)(Q:Bool->AH->Prop)(u0:Bool)(I:AH):=
 Q u0 I
def yO(B:World)(ro:AH)(u0:Option Addr)(Q:Bool->AH->Prop)(u1:Bool)(I:AH):=
 if u1=true then
 ∃p2,u0=some p2/\
 abR B ro (some p2) I fun u3 I=>
 pY B ro Q (decide ((u3.len:Int)=3)) I
 else
 pY B ro Q false I
def uJ(B:World)(ro:AH)(u0:Option Addr)(Q:Bool->AH->Prop)(u1:Bool)(I:AH):=
 if u1=true then
 ∃p2,u0=some p2/\
 ac5 B ro (some p2) I fun u3 I=>
 yO B ro u0 Q (decide (u3=0)) I
 else
 yO B ro u0 Q false I
def aeu(B:World)(ro I:AH)(Q:Bool->AH->Prop):Prop:=
 nw ro I (.cells #[.int .i64 0,.int .i64 1,.int .i64 2] 3) fun u0 I=>
 abQ B ro (⟨some ⟨u0,0,none⟩,3,3⟩:Sl) I fun u1 u2 I=>
 if(u1=none)\/(¬(u2=0))then
 Q false I
 else
 kX B ro u1 1 (⟨#[97]⟩:ByteArray) 0 0 5 100 0 0 (⟨none,0,0⟩:Sl) ByteArray.empty false 0 (⟨none,0,0⟩:Sl) I fun u3 u4 u5 u6 u7 u8 u9 u10 u11 u12 u13 u14 I=>
 nw ro I (.cells #[.int .i64 0,.int .i64 0,Sl.v (⟨none,0,0⟩:Sl),.int .i64 0,Sl.v (⟨none,0,0⟩:Sl),.int .i64 0,.int .i64 0,.int .i64 0,.int .i64 0,Sl.v (⟨none,0,0⟩:Sl),Sl.v (⟨none,0,0⟩:Sl),.int .i64 0] 30) fun u15 I=>
 stN ⟨u15,0,none⟩ (fun I=>
 ∃u16,qa ro I ⟨u15,0,none⟩=some (.int .i64 u16)/\
 if u16=0 then
  ∃u17,qa ro I ((⟨u15,0,none⟩:Addr).add 1)=some (.int .i64 u17)/\
  uJ B ro u1 Q (decide (u17=1)) I
 else
 uJ B ro u1 Q false I) [.int .i64 u3,.int .i64 u4,Sl.v u5,.int .i64 u6,Sl.v u7,.int .i64 u8,.int .i64 u9,.int .i64 u10,.int .i64 u11,Sl.v u12,Sl.v u13,.int .i64 u14] 0 I
theorem akV{Q:Bool->AH->Prop}(h:Sep ro I->aeu B ro I Q):aca B ro I Q:=by
 refine zb h func20 ntmps20 fun h=>?_;unfold aeu at h;refine z3 ?_;refine zp ?_;refine z4 ?_;refine zA (zR (vs:=[(0,.int .i64 0),(1,.int .i64 1),(2,.int .i64 2)]) (cs:= #[.int .i64 0,.int .i64 1,.int .i64 2]) rfl underlying55 ty3 (by decide) rfl rfl) h fun u0 h=>?_;refine zc func21 h ?_;rintro v I ⟨u1,u2,rfl,h⟩;iterate 5 refine zp ?_
 refine z2 (AW.seq (z3 ?_))
 refine zp ?_;refine zm (adK rfl underlying51 rfl rfl) ?_;refine zp ?_;refine wW 3 u1.isNone [(1,.pointer u1),(14,.bool (u1.isNone || (!(decide (u2=0)))))] ?_ ?_ ?_
 .intro e2 hk2
  iterate 2 refine zn e2 ?_
  refine zk e2 ?_;exact hk2 _ (Fe e2)
 .intro e2 hk2
  refine zy e2 ?_;refine zy e2 ?_;refine zk e2 ?_;exact hk2 _ (Fe e2)
 intro fr hl
 refine Lfr hl ?_
 refine z2 ?_;refine AW.iff rfl (zG zt (qu decide_eq_true_iff)) h (fun h=>?_) (fun h=>?_)
 .refine z3 ?_;refine zp ?_;refine z2 ?_;refine AW.ret ?_;refine qi ?_;exact bR1 results20 rfl ⟨_,rfl,h⟩
 refine AW.skip ?_;refine qd (z3 ?_);refine zp ?_;refine zm (wz (vs:=[(0,.int .i64 1),(1,.string (⟨#[97]⟩:ByteArray)),(4,.int .i64 5),(5,.int .i64 100)]) (cs:= #[.int .i64 1,.string (⟨#[97]⟩:ByteArray),.int .i64 0,.int .i64 0,.int .i64 5,.int .i64 100,.int .i64 0,.int .i64 0,Sl.v (⟨none,0,0⟩:Sl),.string ByteArray.empty,.bool false,.int .i64 0,Sl.v (⟨none,0,0⟩:Sl)]) rfl underlying57 aaY aqk rfl (by kernel_rfl)) ?_
 refine zc func22 h ?_;rintro v I ⟨u3,u4,u5,u6,u7,u8,u9,u10,u11,u12,u13,u14,rfl,h⟩;refine zA (qY rfl qM) h fun u15 h=>?_;refine zs qM h fun I h=>?_;refine z4 ?_;refine zf underlying30 adv ?_;refine zL underlying22 h fun u16 h=>?_;iterate 2 refine zp ?_
 refine qO 4 (decide (u16=0)) decide_eq_true_iff h (fun fr I=> ∃(u17:Bool),qo [(1,.pointer u1),(25,.bool u17)] fr/\uJ B ro u1 Q u17 I) ?_ ?_ ?_
 .intro h e3 hk3;refine qX (wm rfl underlying30 rfl ty3 (by decide) rfl) rfl rfl rfl rfl e3 ?_
  obtain⟨u18,hc,h⟩:=h
  refine Lyb rfl rfl rfl rfl e3 (vG rfl underlying3 rfl rfl hc ?_)
  refine zy e3 ?_;refine zk e3 ?_;exact hk3 _ _ ⟨_,FL,h⟩
 .intro h e3 hk3;iterate 3 refine zn e3 ?_
  refine zk e3 ?_;exact hk3 _ _ ⟨_,FL,h⟩
 rintro fr I ⟨u17,hl,h⟩;unfold uJ at h;refine Lfr hl ?_
 refine zp ?_;refine qO 6 u17 Iff.rfl h (fun fr I=> ∃(u19:Bool),qo [(1,.pointer u1),(32,.bool u19)] fr/\yO B ro u1 Q u19 I) ?_ ?_ ?_
 .intro h e8 hk8;refine zy e8 ?_;obtain⟨p20,hc,h⟩:=h
  refine qX (qr rfl (by rw[<-hc];try rfl)) rfl rfl rfl rfl e8 ?_
  refine qX (wm rfl underlying153 rfl aeC (by decide) rfl) rfl rfl rfl rfl e8 ?_
  refine Lyb rfl rfl rfl rfl e8 (qF rfl func62 rfl rfl rfl (qc.mono h ?_))
  rintro v I ⟨u21,rfl,h⟩;refine zy e8 ?_;refine zk e8 ?_;exact hk8 _ _ ⟨_,FL,h⟩
 .intro h e8 hk8;iterate 5 refine zn e8 ?_
  refine zk e8 ?_;exact hk8 _ _ ⟨_,FL,h⟩
 rintro fr I ⟨u19,hl,h⟩;unfold yO at h;refine Lfr hl ?_
 refine zp ?_;refine qO 7 u19 Iff.rfl h (fun fr I=> ∃(u22:Bool),qo [(40,.bool u22)] fr/\pY B ro Q u22 I) ?_ ?_ ?_
 .intro h e15 hk15;refine zy e15 ?_;obtain⟨p23,hc,h⟩:=h
  refine qX (qr rfl (by rw[<-hc];try rfl)) rfl rfl rfl rfl e15 ?_
  refine qX (wm rfl underlying153 rfl aeC (by decide) rfl) rfl rfl rfl rfl e15 ?_
  refine Lyb rfl rfl rfl rfl e15 (qF rfl func63 rfl rfl rfl (qc.mono h ?_))
  rintro v I ⟨u24,rfl,h⟩;refine qX (qT rfl rfl underlying55 rfl rfl) rfl rfl rfl rfl e15 ?_
  refine zy e15 ?_;refine zk e15 ?_;exact hk15 _ _ ⟨_,FL,h⟩
 .intro h e15 hk15;iterate 6 refine zn e15 ?_
  refine zk e15 ?_;exact hk15 _ _ ⟨_,FL,h⟩
 rintro fr I ⟨u22,hl,h⟩;unfold pY at h;refine Lfr hl ?_
 refine zp ?_;refine z2 ?_;refine AW.ret ?_;exact bR1 results20 rfl ⟨_,rfl,h⟩