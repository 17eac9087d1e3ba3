import Derived.Test.YtomdigihapdhnaaGreatDoorXF
set_option linter.all false
set_option maxRecDepth 99999
set_option maxHeartbeats 0
open Go.IntKind(i64)
open Go.Proofs.Tryz
namespace Go.Proofs.YtomdigihapdhnaaGreatDoor
namespace G
open Go SL
variable{B:World}{ro I:AH}
def uB(B:World)(ro I:AH)(Q:Option Addr->AH->Prop):Prop:=
 nw ro I (.cells #[Sl.v (⟨none,0,0⟩:Sl),.int .i64 0,.int .i8 0,.bool false] 221) fun u0 I=>
 Q (some ⟨u0,0,none⟩) I
theorem ad3{Q:Option Addr->AH->Prop}(h:Sep ro I->uB B ro I Q):yp B ro I Q:=by
 refine zb h func43 ntmps43 fun h=>?_;unfold uB at h;refine z3 ?_;refine zp ?_;refine z4 ?_;refine zm (wV (vs:=[]) (cs:= #[Sl.v (⟨none,0,0⟩:Sl),.int .i64 0,.int .i8 0,.bool false]) rfl underlying221 alb alk rfl rfl) ?_;refine zA (vq rfl rfl) h fun u0 h=>?_;refine zp ?_;refine z2 ?_;refine AW.ret ?_;exact bR1 results43 rfl ⟨_,rfl,h⟩
def wL(B:World)(ro:AH)(a0:Option Addr)(a1:Sl)(Q:AH->Prop):Int->AH->(Int->AH->Prop)->Prop:=fun u0 I Y1=>
 if u0<(a1.len:Int)then
 ∃p1,a1.a=some p1/\(0:Int)<=u0/\u0<(a1.len:Int)/\
 ∃u2,qa ro I (p1.add (Int.toNat u0*1))=some (.int .i64 u2)/\
 ∃p3,a0=some p3/\
 xv B ro (some p3) u2 I fun I=>
 Y1 (i64.wrap (u0+1)) I
 else
 Q I
def jv(B:World)(ro:AH)(a0:Option Addr)(a1:Sl)(I:AH)(Q:AH->Prop):=
 lfpD (wL B ro a0 a1 Q) (0) I
theorem aar{a0:Option Addr}{a1:Sl}{Q:AH->Prop}(h:Sep ro I->jv B ro a0 a1 I Q):wb B ro a0 a1 I Q:=by
 refine zb h func44 ntmps44 fun h=>?_;unfold jv at h;refine z3 ?_;refine zp ?_;refine zm (qJ rfl rfl underlying55 rfl rfl) ?_;refine zp ?_;refine z2 (AW.block ?_)
 refine qn.loop (fr':=[(0,.pointer a0),(6,Sl.v a1),(7,.int .i64 (a1.len:Int)),(8,.int .i64 0)]) ?_ FL
 refine h (fun u0 I=>qn _ _ _ _ _ _ [(0,.pointer a0),(6,Sl.v a1),(7,.int .i64 (a1.len:Int)),(8,.int .i64 u0)] I) ?_
 rintro u0 I Y1 hY1 h
 show AW _ _ _ _ _ _ _ _
 unfold wL at h;refine z3 ?_;refine zp ?_;refine z2 (AW.seq ?_)
 refine zi h (fun h=>?_) fun h=>?_
 rotate_left
 .refine AW.exit ?_;refine qR (qR ?_);refine wK ?_
  exact bN0 results44 ⟨rfl,h⟩
 refine AW.skip ?_;refine qc (AW.seq (AW.block (z3 ?_)));obtain⟨p1,ha,h0,h1,h⟩:=h
 refine zm (vL rfl underlying55 ty3 (ixL rfl ha) rfl h0 h1) ?_;refine zL underlying3 h fun u2 h=>?_;refine zp ?_;refine z2 (AW.reg ?_)
 refine zp ?_;refine zN h fun p3 h=>?_;refine zf underlying221 abS ?_;refine zp ?_;refine zc func114 h ?_;rintro v I ⟨rfl,h⟩;refine pT (wq (qc (AW.reg ?_)));iterate 2 refine zp ?_
 refine z2 ?_;refine qn.head (fr':=[(0,.pointer a0),(6,Sl.v a1),(7,.int .i64 (a1.len:Int)),(8,.int .i64 (i64.wrap (u0+1)))]) ?_ FL
 exact hY1 _ _ h
def yv(B:World)(ro:AH)(a0:Option Addr)(a1:Sl)(Q:AH->Prop):Int->AH->(Int->AH->Prop)->Prop:=fun u0 I Y1=>
 if u0<(a1.len:Int)then
 ∃p1,a1.a=some p1/\(0:Int)<=u0/\u0<(a1.len:Int)/\
 ∃u2,qa ro I (p1.add (Int.toNat u0*1))=some (.string u2)/\
 ∃p3,a0=some p3/\
 xv B ro (some p3) (u2.size:Int) I fun I=>
 ∃p4,a0=some p4/\
 kP B ro (some p4) u2 I fun u5 u6 I=>
 Y1 (i64.wrap (u0+1)) I
 else
 Q I
def yY(B:World)(ro:AH)(a0:Option Addr)(a1:Sl)(I:AH)(Q:AH->Prop):=
 lfpD (yv B ro a0 a1 Q) (0) I
theorem ac1{a0:Option Addr}{a1:Sl}{Q:AH->Prop}(h:Sep ro I->yY B ro a0 a1 I Q):zY B ro a0 a1 I Q:=by
 refine zb h func45 ntmps45 fun h=>?_;unfold yY at h;refine z3 ?_;refine zp ?_;refine zm (qJ rfl rfl underlying27 rfl rfl) ?_;refine zp ?_;refine z2 (AW.block ?_)
 refine qn.loop (fr':=[(0,.pointer a0),(6,Sl.v a1),(7,.int .i64 (a1.len:Int)),(8,.int .i64 0)]) ?_ FL
 refine h (fun u0 I=>qn _ _ _ _ _ _ [(0,.pointer a0),(6,Sl.v a1),(7,.int .i64 (a1.len:Int)),(8,.int .i64 u0)] I) ?_
 rintro u0 I Y1 hY1 h
 show AW _ _ _ _ _ _ _ _
 unfold yv at h;refine z3 ?_;refine zp ?_;refine z2 (AW.seq ?_)
 refine zi h (fun h=>?_) fun h=>?_
 rotate_left
 .refine AW.exit ?_;refine qR (qR ?_);refine wK ?_
  exact bN0 results45 ⟨rfl,h⟩
 refine AW.skip ?_;refine qc (AW.seq (AW.block (z3 ?_)));obtain⟨p1,ha,h0,h1,h⟩:=h
 refine zm (vL rfl underlying27 ty9 (ixL rfl ha) rfl h0 h1) ?_;refine zL underlying9 h fun u2 h=>?_;refine zp ?_;refine z4 ?_;refine zp ?_;refine zN h fun p3 h=>?_;refine zf underlying221 abS ?_;refine zp ?_;refine zm (jN rfl rfl underlying9 rfl rfl) ?_;refine zc func114 h ?_;rintro v I ⟨rfl,h⟩;refine z2 (AW.reg ?_)
 refine zp ?_;refine zN h fun p4 h=>?_;refine zf underlying221 abS ?_;refine zf underlying219 agb ?_;refine zp ?_;refine zc func115 h ?_;rintro v I ⟨u5,u6,rfl,h⟩;refine pT (wq (qc (AW.reg ?_)));iterate 2 refine zp ?_
 refine z2 ?_;refine qn.head (fr':=[(0,.pointer a0),(6,Sl.v a1),(7,.int .i64 (a1.len:Int)),(8,.int .i64 (i64.wrap (u0+1)))]) ?_ FL
 exact hY1 _ _ h
def yw(B:World)(ro:AH)(a0:Option Addr)(a1:Sl)(Q:AH->Prop):Int->AH->(Int->AH->Prop)->Prop:=fun u0 I Y1=>
 if u0<(a1.len:Int)then
 ∃p1,a1.a=some p1/\(0:Int)<=u0/\u0<(a1.len:Int)/\
 ∃u2,qa ro I (p1.add (Int.toNat u0*1))=some (Sl.v u2)/\
 ∃p3,a0=some p3/\
 xv B ro (some p3) (u2.len:Int) I fun I=>
 ∃p4,a0=some p4/\
 xG B ro (some p4) u2 I fun u5 u6 I=>
 Y1 (i64.wrap (u0+1)) I
 else
 Q I
def yZ(B:World)(ro:AH)(a0:Option Addr)(a1:Sl)(I:AH)(Q:AH->Prop):=
 lfpD (yw B ro a0 a1 Q) (0) I
theorem ac2{a0:Option Addr}{a1:Sl}{Q:AH->Prop}(h:Sep ro I->yZ B ro a0 a1 I Q):vM B ro a0 a1 I Q:=by
 refine zb h func46 ntmps46 fun h=>?_;unfold yZ at h;refine z3 ?_;refine zp ?_;refine zm (qJ rfl rfl underlying227 rfl rfl) ?_;refine zp ?_;refine z2 (AW.block ?_)
 refine qn.loop (fr':=[(0,.pointer a0),(6,Sl.v a1),(7,.int .i64 (a1.len:Int)),(8,.int .i64 0)]) ?_ FL
 refine h (fun u0 I=>qn _ _ _ _ _ _ [(0,.pointer a0),(6,Sl.v a1),(7,.int .i64 (a1.len:Int)),(8,.int .i64 u0)] I) ?_
 rintro u0 I Y1 hY1 h
 show AW _ _ _ _ _ _ _ _
 unfold yw at h;refine z3 ?_;refine zp ?_;refine z2 (AW.seq ?_)
 refine zi h (fun h=>?_) fun h=>?_
 rotate_left
 .refine AW.exit ?_;refine qR (qR ?_);refine wK ?_
  exact bN0 results46 ⟨rfl,h⟩
 refine AW.skip ?_;refine qc (AW.seq (AW.block (z3 ?_)));obtain⟨p1,ha,h0,h1,h⟩:=h
 refine zm (vL rfl underlying227 qV (ixL rfl ha) rfl h0 h1) ?_;refine zL underlying24 h fun u2 h=>?_;refine zp ?_;refine z4 ?_;refine zp ?_;refine zN h fun p3 h=>?_;refine zf underlying221 abS ?_;refine zp ?_;refine zm (qJ rfl rfl underlying24 rfl rfl) ?_;refine zc func114 h ?_;rintro v I ⟨rfl,h⟩;refine z2 (AW.reg ?_)
 refine zp ?_;refine zN h fun p4 h=>?_;refine zf underlying221 abS ?_;refine zf underlying219 agb ?_;refine zp ?_;refine zc func116 h ?_;rintro v I ⟨u5,u6,rfl,h⟩;refine pT (wq (qc (AW.reg ?_)));iterate 2 refine zp ?_
 refine z2 ?_;refine qn.head (fr':=[(0,.pointer a0),(6,Sl.v a1),(7,.int .i64 (a1.len:Int)),(8,.int .i64 (i64.wrap (u0+1)))]) ?_ FL
 exact hY1 _ _ h
def pX(B:World)(ro:AH)(a0:Option Addr)(I:AH)(Q:Sl->Int->AH->Prop):=
 ∃p0,a0=some p0/\
 ∃u1,qa ro I (p0.add 3)=some (.bool u1)/\
 if u1=true then
 Q (⟨none,0,0⟩:Sl) 10 I
 else
 ∃p2,a0=some p2/\
 uR B ro (some p2) I fun u3 I=>
 kO B ro u3 I fun u4 I=>
 Q u4 0 I
theorem adz{a0:Option Addr}{Q:Sl->Int->AH->Prop}(h:Sep ro I->pX B ro a0 I Q):xt B ro a0 I Q:=by
 refine zb h func47 ntmps47 fun h=>?_;unfold pX at h;refine z3 ?_;iterate 2 refine zp ?_
 refine z2 (AW.seq (z3 ?_))
 refine zp ?_;refine zN h fun p0 h=>?_;refine zf underlying221 abS ?_;refine zf underlying219 ty4 ?_;refine zL underlying4 h fun u1 h=>?_;refine z2 ?_;refine zj h (fun h=>?_) fun h=>?_
 .refine z3 ?_;iterate 2 refine zp ?_
  refine z2 ?_;refine AW.ret ?_;refine qi ?_;exact bR2 results47 rfl rfl ⟨_,_,rfl,h⟩
 refine AW.skip ?_;refine qc (z3 ?_);refine zp ?_;refine zN h fun p2 h=>?_;refine zf underlying221 abS ?_;refine zf underlying219 agb ?_;refine zc func117 h ?_;rintro v I ⟨u3,rfl,h⟩;refine zc func80 h ?_;rintro v I ⟨u4,rfl,h⟩;iterate 2 refine zp ?_
 refine z2 ?_;refine AW.ret ?_;exact bR2 results47 rfl rfl ⟨_,_,rfl,h⟩
def uC(B:World)(ro:AH)(a0:Sl)(I:AH)(Q:Option Addr->AH->Prop):=
 kO B ro a0 I fun u0 I=>
 nw ro I (.cells #[Sl.v u0,.int .i64 0] 231) fun u1 I=>
 Q (some ⟨u1,0,none⟩) I
theorem ad4{a0:Sl}{Q:Option Addr->AH->Prop}(h:Sep ro I->uC B ro a0 I Q):yq B ro a0 I Q:=by
 refine zb h func53 ntmps53 fun h=>?_;unfold uC at h;refine z3 ?_;refine zp ?_;refine z4 ?_;refine zp ?_;refine zc func80 h ?_;rintro v I ⟨u0,rfl,h⟩;refine zm (wV (vs:=[(0,Sl.v u0)]) (cs:= #[Sl.v u0,.int .i64 0]) rfl underlying231 alc alm rfl rfl) ?_;refine zA (vq rfl rfl) h fun u1 h=>?_;refine zp ?_;refine z2 ?_;refine AW.ret ?_;exact bR1 results53 rfl ⟨_,rfl,h⟩
def pY(B:World)(ro:AH)(a0:Option Addr)(I:AH)(Q:Int->AH->Prop):=
 ∃p0,a0=some p0/\
 ∃u1,qa ro I (p0.add 1)=some (.int .i64 u1)/\
 if¬(u1=0)then
 Q 0 I
 else
 ∃p2,a0=some p2/\
 ∃u3,qa ro I p2=some (Sl.v u3)/\
 aaZ B ro u3 0 I fun u4 u5 u6 I=>
 ∃p7,a0=some p7/\
 stN (p7.add 1) (fun I=>
 ∃p8,a0=some p8/\
 ∃u9,qa ro I p8=some (Sl.v u9)/\
 cutOk (some u5) none u9.len u9.cap/\
 ∃p10,a0=some p10/\
 stN p10 (fun I=>
  Q u4 I) [Sl.v (⟨wy u9.a (Int.toNat u5) u9.cap 1,u9.len - Int.toNat u5,u9.cap - Int.toNat u5⟩:Sl)] 0 I) [.int .i64 u6] 0 I
theorem adA{a0:Option Addr}{Q:Int->AH->Prop}(h:Sep ro I->pY B ro a0 I Q):qL B ro a0 I Q:=by
 refine zb h func54 ntmps54 fun h=>?_;unfold pY at h;refine z3 ?_;refine zp ?_;refine z2 (AW.seq (z3 ?_))
 refine zp ?_;refine zN h fun p0 h=>?_;refine zf underlying231 ab6 ?_;refine zL underlying22 h fun u1 h=>?_;refine zp ?_;refine z2 ?_;refine AW.iff rfl (qt decide_eq_true_iff) h (fun h=>?_) (fun h=>?_)
 .refine z3 ?_;refine zp ?_;refine z2 ?_;refine AW.ret ?_;refine qi ?_;exact bR1 results54 rfl ⟨_,rfl,h⟩
 refine AW.skip ?_;refine qc (z3 ?_);refine zp ?_;refine zN h fun p2 h=>?_;refine zf underlying231 qV ?_;refine zL underlying24 h fun u3 h=>?_;refine zc func119 h ?_;rintro v I ⟨u4,u5,u6,rfl,h⟩;iterate 7 refine zp ?_
 refine z4 ?_;iterate 2 refine zp ?_
 refine zN h fun p7 h=>?_;refine zf underlying231 ab6 ?_;refine zs ab6 h fun I h=>?_;refine z4 ?_;iterate 2 refine zp ?_
 refine zN h fun p8 h=>?_;refine zf underlying231 qV ?_;refine zL underlying24 h fun u9 h=>?_;refine zp ?_;obtain⟨hc,h⟩:=h
 refine zm (un (lo:=(some u5)) (hi:=none) rfl underlying24 ty5 rfl (ze rfl) zW hc) ?_;refine zN h fun p10 h=>?_;refine zf underlying231 qV ?_;refine zs qV h fun I h=>?_;refine z4 ?_;iterate 2 refine zp ?_
 refine z2 ?_;refine AW.ret ?_;exact bR1 results54 rfl ⟨_,rfl,h⟩
def pC(B:World)(ro:AH)(a0:Option Addr)(I:AH)(Q:ByteArray->AH->Prop):=
 kh B ro a0 I fun u0 I=>
 awp prog ro (convert 24 9 (Sl.v u0)) (fun v I=>
 (∃(u1:ByteArray),v= .string u1/\
  Q u1 I)) I
theorem adh{a0:Option Addr}{Q:ByteArray->AH->Prop}(h:Sep ro I->pC B ro a0 I Q):kf B ro a0 I Q:=by
 refine zb h func55 ntmps55 fun h=>?_;unfold pC at h;refine z3 ?_;refine zp ?_;refine z4 ?_;refine zp ?_;refine zc func56 h ?_;rintro v I ⟨u0,rfl,h⟩;refine zl (abd rfl rfl (qv _ h ?_))
 rintro v I ⟨u1,rfl,h⟩;refine zp ?_;refine z2 ?_;refine AW.ret ?_;exact bR1 results55 rfl ⟨_,rfl,h⟩
def pD(B:World)(ro:AH)(a0:Option Addr)(I:AH)(Q:Sl->AH->Prop):=
 ∃p0,a0=some p0/\
 ∃u1,qa ro I p0=some (Sl.v u1)/\
 qL B ro a0 I fun u2 I=>
 ∃p3,a0=some p3/\
 ∃u4,qa ro I (p3.add 1)=some (.int .i64 u4)/\
 if¬(u4=0)then
 Q (⟨none,0,0⟩:Sl) I
 else
 ∃p5,a0=some p5/\
 ∃u6,qa ro I p5=some (Sl.v u6)/\
 if(u6.len:Int)<u2 then
 ∃p7,a0=some p7/\
 stN (p7.add 1) (fun I=>
  ∃p8,a0=some p8/\
  stN p8 (fun I=>
  Q (⟨none,0,0⟩:Sl) I) [Sl.v u1] 0 I) [.int .i64 12] 0 I
 else
 ∃p9,a0=some p9/\
 ∃u10,qa ro I p9=some (Sl.v u10)/\
 cutOk none (some u2) u10.len u10.cap/\
 kO B ro (⟨wy u10.a (0) u10.cap 1,Int.toNat u2 - 0,u10.cap - 0⟩:Sl) I fun u11 I=>
 ∃p12,a0=some p12/\
 ∃u13,qa ro I p12=some (Sl.v u13)/\
 cutOk (some u2) none u13.len u13.cap/\
 ∃p14,a0=some p14/\
 stN p14 (fun I=>
 Q u11 I) [Sl.v (⟨wy u13.a (Int.toNat u2) u13.cap 1,u13.len - Int.toNat u2,u13.cap - Int.toNat u2⟩:Sl)] 0 I
theorem adi{a0:Option Addr}{Q:Sl->AH->Prop}(h:Sep ro I->pD B ro a0 I Q):kh B ro a0 I Q:=by
 refine zb h func56 ntmps56 fun h=>?_;unfold pD at h;refine z3 ?_;refine zp ?_;refine z4 ?_;refine zp ?_;refine zN h fun p0 h=>?_;refine zf underlying231 qV ?_;refine zL underlying24 h fun u1 h=>?_;refine zp ?_;refine z4 ?_;refine zp ?_;refine zc func54 h ?_;rintro v I ⟨u2,rfl,h⟩;refine zp ?_;refine z2 (AW.seq (z3 ?_))
 refine zp ?_;refine zN h fun p3 h=>?_;refine zf underlying231 ab6 ?_;refine zL underlying22 h fun u4 h=>?_;refine zp ?_;refine z2 ?_;refine AW.iff rfl (qt decide_eq_true_iff) h (fun h=>?_) (fun h=>?_)
 .refine z3 ?_;refine zp ?_;refine z2 ?_;refine AW.ret ?_;refine qi ?_;exact bR1 results56 rfl ⟨_,rfl,h⟩
 refine AW.skip ?_;refine qc (AW.seq (z3 ?_));iterate 2 refine zp ?_
 refine zN h fun p5 h=>?_;refine zf underlying231 qV ?_;refine zL underlying24 h fun u6 h=>?_;refine zm (qJ rfl rfl underlying24 rfl rfl) ?_;refine zp ?_;refine z2 ?_;refine zi h (fun h=>?_) fun h=>?_
 .refine z3 ?_;iterate 3 refine zp ?_
  refine zN h fun p7 h=>?_;refine zf underlying231 ab6 ?_;refine zs ab6 h fun I h=>?_;refine zN h fun p8 h=>?_;refine zf underlying231 qV ?_;refine zs qV h fun I h=>?_;refine z4 ?_;refine zp ?_;refine z2 ?_;refine AW.ret ?_;refine qi ?_;exact bR1 results56 rfl ⟨_,rfl,h⟩
 refine AW.skip ?_;refine qc (z3 ?_);refine zp ?_;refine zN h fun p9 h=>?_;refine zf underlying231 qV ?_;refine zL underlying24 h fun u10 h=>?_;refine zp ?_;obtain⟨hc,h⟩:=h
 refine zm (un (lo:=none) (hi:=(some u2)) rfl underlying24 ty5 rfl zW (ze rfl) hc) ?_;refine zc func80 h ?_;rintro v I ⟨u11,rfl,h⟩;refine zp ?_;refine z4 ?_;iterate 2 refine zp ?_
 refine zN h fun p12 h=>?_;refine zf underlying231 qV ?_;refine zL underlying24 h fun u13 h=>?_;refine zp ?_;obtain⟨hc,h⟩:=h
 refine zm (un (lo:=(some u2)) (hi:=none) rfl underlying24 ty5 rfl (ze rfl) zW hc) ?_;refine zN h fun p14 h=>?_;refine zf underlying231 qV ?_;refine zs qV h fun I h=>?_;refine z4 ?_;iterate 2 refine zp ?_
 refine z2 ?_;refine AW.ret ?_;exact bR1 results56 rfl ⟨_,rfl,h⟩
def pZ(B:World)(ro:AH)(a0:Option Addr)(I:AH)(Q:Int->AH->Prop):=
 ∃p0,a0=some p0/\
 ∃u1,qa ro I (p0.add 1)=some (.int .i64 u1)/\
 Q u1 I
theorem adB{a0:Option Addr}{Q:Int->AH->Prop}(h:Sep ro I->pZ B ro a0 I Q):xu B ro a0 I Q:=by
 refine zb h func57 ntmps57 fun h=>?_;unfold pZ at h;refine z3 ?_;refine zp ?_;refine z4 ?_;refine zp ?_;refine zN h fun p0 h=>?_;refine zf underlying231 ab6 ?_;refine zL underlying22 h fun u1 h=>?_;refine zp ?_;refine z2 ?_;refine AW.ret ?_;exact bR1 results57 rfl ⟨_,rfl,h⟩
def pE(B:World)(ro:AH)(a0:Option Addr)(I:AH)(Q:Int->AH->Prop):=
 ∃p0,a0=some p0/\
 ∃u1,qa ro I p0=some (Sl.v u1)/\
 Q (u1.len:Int) I
theorem adj{a0:Option Addr}{Q:Int->AH->Prop}(h:Sep ro I->pE B ro a0 I Q):js B ro a0 I Q:=by
 refine zb h func58 ntmps58 fun h=>?_;unfold pE at h;refine z3 ?_;refine zp ?_;refine z4 ?_;refine zp ?_;refine zN h fun p0 h=>?_;refine zf underlying231 qV ?_;refine zL underlying24 h fun u1 h=>?_;refine zm (qJ rfl rfl underlying24 rfl rfl) ?_;refine zp ?_;refine z2 ?_;refine AW.ret ?_;exact bR1 results58 rfl ⟨_,rfl,h⟩
def ua(B:World)(ro:AH)(a0:Option Addr)(a1:Int)(I:AH)(Q:AH->Prop):=
 uT B ro a1 I fun u0 I=>
 if¬(u0=true)then
 ∃p1,a0=some p1/\
 stN (p1.add 3) (fun I=>
  Q I) [.bool true] 0 I
 else
 ∃p2,a0=some p2/\
 acP B ro (⟨none,0,0⟩:Sl) a1 I fun u3 I=>
 xG B ro (some p2) u3 I fun u4 u5 I=>
 Q I
theorem adC{a0:Option Addr}{a1:Int}{Q:AH->Prop}(h:Sep ro I->ua B ro a0 a1 I Q):xv B ro a0 a1 I Q:=by
 refine zb h func114 ntmps114 fun h=>?_;unfold ua at h;refine AW.seq (z3 ?_);refine zp ?_;refine zc func174 h ?_;rintro v I ⟨u0,rfl,h⟩;refine zp ?_;refine z2 ?_;refine AW.iff rfl (qt Iff.rfl) h (fun h=>?_) (fun h=>?_)
 .refine z3 ?_;refine zp ?_;refine zN h fun p1 h=>?_;refine zf underlying219 ty4 ?_;refine zs ty4 h fun I h=>?_;refine z2 ?_;refine AW.ret ?_;refine qi ?_;exact bR0 results114 ⟨rfl,h⟩
 refine AW.skip ?_;refine qc ?_;refine AW.drawn0 (fun i=>([0,0,0,0,2,2]:List Nat).getD i 2) [] [0,1,2,3,4,5] mixed (by decide+kernel) ?_
 refine zq ?_;obtain⟨p2,hc,h⟩:=h
 refine Dp rfl rfl rfl rfl (wD rfl (by rw[<-hc];rfl)) ?_
 refine zg underlying219 agb ?_;refine zq ?_;refine Dg rfl rfl rfl rfl (qF rfl func175 rfl rfl rfl (qb.mono h ?_))
 rintro v I ⟨u3,rfl,h⟩;refine Dg rfl rfl rfl rfl (qF rfl func116 rfl rfl rfl (qb.mono h ?_))
 rintro v I ⟨u4,u5,rfl,h⟩;refine aat ?_
 exact bN0 results114 ⟨rfl,h⟩
def vR(B:World)(ro:AH)(a0:Sl)(a1:Int)(Q:Int->Int->Int->AH->Prop)(I:AH):=
 if 9<=(i64.wrap ((a0.len:Int) - a1))then
 Q 0 0 13 I
 else
 Q 0 0 12 I
def xN(B:World)(ro:AH)(a1 u0 u1 u2:Int)(Q:Int->Int->Int->AH->Prop)(Y2:(Int×Int)->AH->Prop)(u3:Bool)(I:AH):=
 if u3=true then
 Q 0 0 13 I
 else
 Q (kx .i64 u0 (i64.wrap ((i64.wrap (ke .u8 u2 127))*2 ^ (min (Int.toNat (i64.wrap (7*u1))) 64)))) (i64.wrap ((i64.wrap (a1+u1))+1)) 0 I
def jX(B:World)(ro:AH)(a0:Sl)(a1:Int)(Q:Int->Int->Int->AH->Prop):(Int×Int)->AH->((Int×Int)->AH->Prop)->Prop:=fun⟨u0,u1⟩ I Y2=>
 if u1<((⟨wy a0.a (Int.toNat a1) a0.cap 1,a0.len - Int.toNat a1,a0.cap - Int.toNat a1⟩:Sl).len:Int)then
 ∃p2:Addr,(⟨wy a0.a (Int.toNat a1) a0.cap 1,a0.len - Int.toNat a1,a0.cap - Int.toNat a1⟩:Sl).a=some p2/\(0:Int)<=u1/\u1<((⟨wy a0.a (Int.toNat a1) a0.cap 1,a0.len - Int.toNat a1,a0.cap - Int.toNat a1⟩:Sl).len:Int)/\
 ∃u3,qa ro I (p2.add (Int.toNat u1*1))=some (.int .u8 u3)/\
 if u1=9 then
  vR B ro a0 a1 Q I
 else
 (0:Int)<=(i64.wrap (7*u1))/\
 if u3<128 then
  if(u3=0)/\(0<u1)then
  xN B ro a1 u0 u1 u3 Q Y2 true I
  else
  uT B ro (kx .i64 u0 (i64.wrap ((i64.wrap (ke .u8 u3 127))*2 ^ (min (Int.toNat (i64.wrap (7*u1))) 64)))) I fun u4 I=>
  xN B ro a1 u0 u1 u3 Q Y2 (!u4) I
 else
 Y2 (kx .i64 u0 (i64.wrap ((i64.wrap (ke .u8 u3 127))*2 ^ (min (Int.toNat (i64.wrap (7*u1))) 64))),i64.wrap (u1+1)) I
 else
 vR B ro a0 a1 Q I
def aa7(B:World)(ro:AH)(a0:Sl)(a1:Int)(I:AH)(Q:Int->Int->Int->AH->Prop):=
 if(a1<0)\/((a0.len:Int)<a1)then
 Q 0 0 11 I
 else
 cutOk (some a1) none a0.len a0.cap/\
 lfpD (jX B ro a0 a1 Q) (0,0) I
theorem afl{a0:Sl}{a1:Int}{Q:Int->Int->Int->AH->Prop}(h:Sep ro I->aa7 B ro a0 a1 I Q):aaZ B ro a0 a1 I Q:=by
 refine zb h func119 ntmps119 fun h=>?_;unfold aa7 at h;refine z3 ?_;iterate 3 refine zp ?_
 refine z2 (AW.seq (z3 ?_))
 iterate 3 refine zp ?_
 refine qX 5 (decide (a1<0)) [(0,Sl.v a0),(1,.int .i64 a1),(4,.int .i64 0),(16,.bool ((decide (a1<0)) || (decide ((a0.len:Int)<a1))))] ?_ ?_ ?_
 .intro e2 hk2
  iterate 4 refine zn e2 ?_
  refine zk e2 ?_;exact hk2 _ (Fe e2)
 .intro e2 hk2
  refine zy e2 ?_;refine zy e2 ?_;refine qr (qJ rfl rfl underlying24 rfl rfl) rfl rfl rfl rfl e2 ?_
  refine zy e2 ?_;refine zk e2 ?_;exact hk2 _ (Fe e2)
 intro fr hl
 refine Lfr hl ?_
 refine z2 ?_;refine AW.iff rfl (wt decide_eq_true_iff decide_eq_true_iff) h (fun h=>?_) (fun h=>?_)
 .refine z3 ?_;iterate 3 refine zp ?_
  refine z2 ?_;refine AW.ret ?_;refine qi ?_;exact bR3 results119 rfl rfl rfl ⟨_,_,_,rfl,h⟩
 refine AW.skip ?_;refine qc ?_;refine AW.seqJ (fun fr I=>qk [(0,Sl.v a0),(1,.int .i64 a1)] fr/\vR B ro a0 a1 Q I) ?_ ?_
 .rintro fr I ⟨hl,h⟩;refine AW.weaken ?_ hl (HLe.refl _)
  unfold vR at h;refine AW.seq (z3 ?_);refine zp ?_;refine zm (qJ rfl rfl underlying24 rfl rfl) ?_;iterate 3 refine zp ?_
  refine z2 ?_;refine zi h (fun h=>?_) fun h=>?_
  .refine z3 ?_;iterate 3 refine zp ?_
   refine z2 ?_;refine AW.ret ?_;refine qi ?_;exact bR3 results119 rfl rfl rfl ⟨_,_,_,rfl,h⟩
  refine AW.skip ?_;refine qc (z3 ?_);iterate 3 refine zp ?_
  refine z2 ?_;refine AW.ret ?_;exact bR3 results119 rfl rfl rfl ⟨_,_,_,rfl,h⟩
 refine z3 ?_;iterate 2 refine zp ?_
 obtain⟨hc,h⟩:=h
 refine zm (un (lo:=(some a1)) (hi:=none) rfl underlying24 ty5 rfl (ze rfl) zW hc) ?_;refine zm (qJ rfl rfl underlying24 rfl rfl) ?_;refine zp ?_;refine z2 (AW.block ?_)
 refine qn.loop (fr':=[(0,Sl.v a0),(1,.int .i64 a1),(19,Sl.v (⟨wy a0.a (Int.toNat a1) a0.cap 1,a0.len - Int.toNat a1,a0.cap - Int.toNat a1⟩:Sl)),(20,.int .i64 ((⟨wy a0.a (Int.toNat a1) a0.cap 1,a0.len - Int.toNat a1,a0.cap - Int.toNat a1⟩:Sl).len:Int)),(4,.int .i64 0),(21,.int .i64 0)]) ?_ FL
 refine h (fun⟨u0,u1⟩ I=>qn _ _ _ _ _ _ [(0,Sl.v a0),(1,.int .i64 a1),(19,Sl.v (⟨wy a0.a (Int.toNat a1) a0.cap 1,a0.len - Int.toNat a1,a0.cap - Int.toNat a1⟩:Sl)),(20,.int .i64 ((⟨wy a0.a (Int.toNat a1) a0.cap 1,a0.len - Int.toNat a1,a0.cap - Int.toNat a1⟩:Sl).len:Int)),(4,.int .i64 u0),(21,.int .i64 u1)] I) ?_
 rintro⟨u0,u1⟩ I Y2 hY2 h
 show AW _ _ _ _ _ _ _ _
 unfold jX at h;dsimp only at h;refine z3 ?_;refine zp ?_;refine z2 (AW.seq ?_)
 refine zi h (fun h=>?_) fun h=>?_
 rotate_left
 .refine AW.exit ?_;refine qR (qR ?_);refine wK ?_
  refine qc ?_;exact⟨FL,h⟩
 refine AW.skip ?_;refine qc (AW.seq (AW.block (z3 ?_)));refine zp ?_;obtain⟨p2,ha,h0,h1,h⟩:=h
 refine zm (vL rfl underlying24 ty5 (ixL rfl ha) rfl h0 h1) ?_;refine zL underlying5 h fun u3 h=>?_;iterate 2 refine zp ?_
 refine z2 (AW.seq (z3 ?_))
 iterate 2 refine zp ?_
 refine z2 ?_;refine zi h (fun h=>?_) fun h=>?_
 .refine AW.exit ?_;refine qR ?_;refine akw rfl ?_
  refine qR (qR ?_);refine wK ?_
  refine qc ?_;exact⟨FL,h⟩
 refine AW.skip ?_;refine qc (z3 ?_);iterate 2 refine zp ?_
 refine zm (ahN rfl rfl rfl) ?_;refine zm (adS rfl rfl underlying5 underlying3) ?_;iterate 2 refine zp ?_
 obtain⟨hc,h⟩:=h
 refine zm (ak2 rfl rfl rfl hc) ?_;refine zm (ahO rfl rfl rfl) ?_;refine zp ?_;refine z4 ?_;iterate 2 refine zp ?_
 refine z2 ?_;refine zi h (fun h=>?_) fun h=>?_
 rotate_left
 .refine AW.skip ?_;refine wq (qc (AW.reg ?_));iterate 2 refine zp ?_
  refine z2 ?_;refine qn.head (fr':=[(0,Sl.v a0),(1,.int .i64 a1),(19,Sl.v (⟨wy a0.a (Int.toNat a1) a0.cap 1,a0.len - Int.toNat a1,a0.cap - Int.toNat a1⟩:Sl)),(20,.int .i64 ((⟨wy a0.a (Int.toNat a1) a0.cap 1,a0.len - Int.toNat a1,a0.cap - Int.toNat a1⟩:Sl).len:Int)),(4,.int .i64 (kx .i64 u0 (i64.wrap ((i64.wrap (ke .u8 u3 127))*2 ^ (min (Int.toNat (i64.wrap (7*u1))) 64))))),(21,.int .i64 (i64.wrap (u1+1)))]) ?_ FL
  exact hY2 _ _ h
 refine AW.seq (z3 ?_);iterate 3 refine zp ?_
 refine qX 3 (decide (u3=0)) [(1,.int .i64 a1),(4,.int .i64 (kx .i64 u0 (i64.wrap ((i64.wrap (ke .u8 u3 127))*2 ^ (min (Int.toNat (i64.wrap (7*u1))) 64))))),(7,.int .i64 u1),(43,.bool ((decide (u3=0)) && (decide (0<u1))))] ?_ ?_ ?_
 .intro e2 hk2
  refine zy e2 ?_;refine zy e2 ?_;refine zk e2 ?_;exact hk2 _ (Fe e2)
 .intro e2 hk2
  iterate 2 refine zn e2 ?_
  refine zk e2 ?_;exact hk2 _ (Fe e2)
 intro fr hl
 refine Lfr hl ?_
 refine zp ?_;refine qq 4 ((decide (u3=0)) && (decide (0<u1))) (jA decide_eq_true_iff decide_eq_true_iff) h (fun fr I=> ∃(u4:Bool),qk [(1,.int .i64 a1),(4,.int .i64 (kx .i64 u0 (i64.wrap ((i64.wrap (ke .u8 u3 127))*2 ^ (min (Int.toNat (i64.wrap (7*u1))) 64))))),(7,.int .i64 u1),(48,.bool u4)] fr/\xN B ro a1 u0 u1 u3 Q Y2 u4 I) ?_ ?_ ?_
 .intro h e6 hk6;iterate 3 refine zn e6 ?_
  refine zk e6 ?_;exact hk6 _ _ ⟨_,FL,h⟩
 .intro h e6 hk6;refine zy e6 ?_;refine Lyb rfl rfl rfl rfl e6 (qF rfl func174 rfl rfl rfl (qb.mono h ?_))
  rintro v I ⟨u5,rfl,h⟩;refine zy e6 ?_;refine zk e6 ?_;exact hk6 _ _ ⟨_,FL,h⟩
 rintro fr I ⟨u4,hl,h⟩;unfold xN at h;refine Lfr hl ?_
 refine z2 ?_;refine zj h (fun h=>?_) fun h=>?_
 .refine z3 ?_;iterate 3 refine zp ?_
  refine z2 ?_;refine AW.ret ?_;refine qi (qQ (qi (qi (qQ (qi ?_)))));exact bR3 results119 rfl rfl rfl ⟨_,_,_,rfl,h⟩
 refine AW.skip ?_;refine qc (z3 ?_);iterate 8 refine zp ?_
 refine z2 ?_;refine AW.ret ?_;refine qQ (qi (qi (qQ (qi ?_))));exact bR3 results119 rfl rfl rfl ⟨_,_,_,rfl,h⟩
def abI(B:World)(ro:AH)(a0:Int)(I:AH)(Q:Bool->AH->Prop):=
 Q ((decide (0<=a0)) && (decide (a0<=4611686018427387903))) I
theorem af0{a0:Int}{Q:Bool->AH->Prop}(h:Sep ro I->abI B ro a0 I Q):uT B ro a0 I Q:=by
 refine zb h func174 ntmps174 fun h=>?_;unfold abI at h;refine z3 ?_;refine zp ?_;refine z4 ?_;iterate 3 refine zp ?_
 refine qX 3 (decide (0<=a0)) [(8,.bool ((decide (0<=a0)) && (decide (a0<=4611686018427387903))))] ?_ ?_ ?_
 .intro e2 hk2
  refine zy e2 ?_;refine zy e2 ?_;refine zk e2 ?_;exact hk2 _ (Fe e2)
 .intro e2 hk2
  iterate 2 refine zn e2 ?_
  refine zk e2 ?_;exact hk2 _ (Fe e2)
 intro fr hl
 refine Lfr hl ?_
 refine zp ?_;refine z2 ?_;refine AW.ret ?_;exact bR1 results174 rfl ⟨_,rfl,h⟩
def ui(B:World)(ro:AH)(Q:Sl->AH->Prop)(u0:Sl)(u1:Int)(I:AH):=
 nw ro I (.cells #[.int .u8 (IntKind.u8.wrap u1)] 5) fun u2 I=>
 awp prog ro (Builtin.append_ #[24,24] 24 #[Sl.v u0,Sl.v (⟨some ⟨u2,0,none⟩,1,1⟩:Sl)]) (fun v I=> ∃(u3:Sl),v=Sl.v u3/\
 Q u3 I) I
def uj(B:World)(ro:AH)(Q:Sl->AH->Prop):(Sl×Int)->AH->((Sl×Int)->AH->Prop)->Prop:=fun⟨u0,u1⟩ I Y6=>
 if 128<=u1 then
 nw ro I (.cells #[.int .u8 (kx .u8 (IntKind.u8.wrap u1) 128)] 5) fun u2 I=>
 awp prog ro (Builtin.append_ #[24,24] 24 #[Sl.v u0,Sl.v (⟨some ⟨u2,0,none⟩,1,1⟩:Sl)]) (fun v I=> ∃(u3:Sl),v=Sl.v u3/\
  Y6 (u3,Int.fdiv u1 (2 ^ (min (Int.toNat 7) 64))) I) I
 else
 ui B ro Q u0 u1 I
def ac3(B:World)(ro:AH)(a0:Sl)(a1:Int)(I:AH)(Q:Sl->AH->Prop):=
 lfpD (uj B ro Q) (a0,a1) I
theorem agZ{a0:Sl}{a1:Int}{Q:Sl->AH->Prop}(h:Sep ro I->ac3 B ro a0 a1 I Q):acP B ro a0 a1 I Q:=by
 refine zb h func175 ntmps175 fun h=>?_;unfold ac3 at h;refine z3 ?_;refine zp ?_;refine z2 ?_;refine AW.seqJ (fun fr I=> ∃(u0:Sl) (u1:Int),qk [(0,Sl.v u0),(1,.int .i64 u1)] fr/\ui B ro Q u0 u1 I) ?_ ?_
 .rintro fr I ⟨u0,u1,hl,h⟩;refine AW.weaken ?_ hl (HLe.refl _)
  unfold ui at h;refine z3 ?_;iterate 2 refine zp ?_
  refine zm (adS rfl rfl underlying3 underlying5) ?_;refine zA (wI (vs:=[(0,.int .u8 (IntKind.u8.wrap u1))]) (cs:= #[.int .u8 (IntKind.u8.wrap u1)]) rfl underlying24 ty5 (by decide) rfl rfl) h fun u2 h=>?_;refine zl (jz (s:=Builtin.append_ #[24,24] 24 #[Sl.v u0,Sl.v (⟨some ⟨u2,0,none⟩,1,1⟩:Sl)]) rfl rfl (fun _=>rfl) (qv _ h ?_))
  rintro v I ⟨u3,rfl,h⟩;refine zp ?_;refine z2 ?_;refine AW.ret ?_;exact bR1 results175 rfl ⟨_,rfl,h⟩
 refine AW.block ?_;refine qn.loop (fr':=[(0,Sl.v a0),(1,.int .i64 a1)]) ?_ FL
 refine h (fun⟨u4,u5⟩ I=>qn _ _ _ _ _ _ [(0,Sl.v u4),(1,.int .i64 u5)] I) ?_
 rintro⟨u4,u5⟩ I Y6 hY6 h
 show AW _ _ _ _ _ _ _ _
 unfold uj at h;dsimp only at h;refine AW.seq (z3 ?_);iterate 2 refine zp ?_
 refine z2 ?_;refine zi h (fun h=>?_) fun h=>?_
 rotate_left
 .refine AW.exit ?_;refine qR (qR ?_);refine wK ?_
  refine qc ?_;exact⟨_,_,FL,h⟩
 refine AW.skip ?_;refine qc (AW.seq (AW.block (AW.reg ?_)));iterate 2 refine zp ?_
 refine zm (adS rfl rfl underlying3 underlying5) ?_;refine zm (ahO rfl rfl rfl) ?_;refine zA (wI (vs:=[(0,.int .u8 (kx .u8 (IntKind.u8.wrap u5) 128))]) (cs:= #[.int .u8 (kx .u8 (IntKind.u8.wrap u5) 128)]) rfl underlying24 ty5 (by decide) rfl rfl) h fun u6 h=>?_;refine zl (jz (s:=Builtin.append_ #[24,24] 24 #[Sl.v u4,Sl.v (⟨some ⟨u6,0,none⟩,1,1⟩:Sl)]) rfl rfl (fun _=>rfl) (qv _ h ?_))
 rintro v I ⟨u7,rfl,h⟩;refine zp ?_;refine pT (wq (qc (AW.reg ?_)));refine zp ?_;refine zm (ak3 rfl rfl rfl (by decide)) ?_;refine zp ?_;refine z2 ?_;refine qn.head (fr':=[(0,Sl.v u7),(1,.int .i64 (Int.fdiv u5 (2 ^ (min (Int.toNat 7) 64))))]) ?_ FL
 exact hY6 _ _ h
end G
namespace Wi
open Go SL G Zt
variable{B:World}{ro I I':AH}{tag tag':Nat->Nat}
theorem alV(n:Nat):kx .u8 (IntKind.u8.wrap (n:Int)) 128=((n%128+128:Nat):Int):=by
 have h:∀ c:Fin 256,kx .u8 ((c.val:Nat):Int) 128=((c.val%128+128:Nat):Int):=by decide+kernel
 have e:IntKind.u8.wrap (n:Int)=((n%256:Nat):Int):=by
  simp[IntKind.wrap,IntKind.bits,IntKind.signed]
 rw[e,h ⟨n%256,Nat.mod_lt _ (by decide)⟩]
 simp only
 omega
theorem aiF{n:Nat}(h:n<256):IntKind.u8.wrap (n:Int)=(n:Int):=by
 simp[IntKind.wrap,IntKind.bits,IntKind.signed];omega
theorem ah9{n:Nat}(h:n<256):vU (UInt8.ofNat n)= .int .u8 (n:Int):=by
 unfold vU;rw[uq n h]
theorem agC{n:Int}{Q:Bool->AH->Prop}(hQ:Q (qK n) I):uT B ro n I Q:=by
 refine af0 fun _=>?_
 unfold abI
 exact hQ
theorem akL{n:Nat}{Q:Sl->AH->Prop}(hs:SL.Sep ro I)(hn:n<4611686018427387904)(hQ:∀ s tag' I',qf [1] ro tag I tag' I'->Row tag' I' 1 5 s ((qC n).map vU)->Q s I'):acP B ro ⟨none,0,0⟩ (n:Int) I Q:=by
 refine agZ fun _=>?_
 unfold ac3
 suffices∀(m k:Nat) (acc:Str) (s:Sl) (tag1:Nat->Nat) (I1:AH),k<128 ^ (m+1)->acc.length+m<20->acc++qC k=qC n->qf [1] ro tag I tag1 I1->Row tag1 I1 1 5 s (acc.map vU)->lfpD (uj B ro Q) (s,(k:Int)) I1 from
  this 8 n [] ⟨none,0,0⟩ tag I (by omega) (by decide) rfl (qf.refl hs) (Row.nil 1 5)
 intro m
 induction m with
 | zero=>
  intro k acc s tag1 I1 hk ha he st r1
  have hk:k<128:=by simpa using hk
  refine lfpD.intro ?_
  unfold uj
  simp only
  rw[if_neg (by omega)]
  unfold ui
  refine ql (tag:=tag1) 0 st.sep fun x tag2 I2 st2 r2=>?_
  rw[aiF (by omega)]at r2
  refine xJ (l2:=[vU (UInt8.ofNat k)]) (r1.keep (st2 [])) (st2 []).sep (by rw[ah9 (by omega)];exact r2.read (st2 []).sep) u30 ty5 rfl (by simp[qg]) (by simp;omega) (by decide) fun s' tag3 I3 st3 r3=>?_
  refine⟨s',rfl,hQ s' tag3 I3 (st.trans ((st2 _).trans (st3 _ (.inr (by simp))))) ?_⟩
  rw[<-he]
  rw[qC,if_pos hk,List.map_append]
  exact r3
 | succ m ih=>
  intro k acc s tag1 I1 hk ha he st r1
  refine lfpD.intro ?_
  unfold uj
  simp only
  by_cases h128:128<=k
  .rw[if_pos (by omega)]
   refine ql (tag:=tag1) 0 st.sep fun x tag2 I2 st2 r2=>?_
   rw[alV]at r2
   refine xJ (l2:=[vU (UInt8.ofNat (k%128+128))]) (r1.keep (st2 [])) (st2 []).sep (by rw[ah9 (by omega)];exact r2.read (st2 []).sep) u30 ty5 rfl (by simp[qg]) (by simp;omega) (by decide) fun s' tag3 I3 st3 r3=>?_
   refine⟨s',rfl,?_⟩
   rw[show Int.fdiv (k:Int) (2 ^ (min (Int.toNat 7) 64))=((k / 128:Nat):Int) by
    rw[show(2:Int) ^ (min (Int.toNat 7) 64)=128 from by decide,Int.fdiv_eq_ediv_of_nonneg _ (by decide)];omega]
   refine ih (k / 128) (acc++[UInt8.ofNat (k%128+128)]) s' tag3 I3 (by rw[Nat.pow_succ]at hk;exact Nat.div_lt_of_lt_mul (by rw[Nat.mul_comm];exact hk)) (by simp;omega) ?_ (st.trans ((st2 _).trans (st3 _ (.inr (by simp))))) (by rw[List.map_append];exact r3)
   rw[<-he,List.append_assoc]
   conv=>rhs;rw[qC,if_neg (by omega)]
   rfl
  .rw[if_neg (by omega)]
   unfold ui
   refine ql (tag:=tag1) 0 st.sep fun x tag2 I2 st2 r2=>?_
   rw[aiF (by omega)]at r2
   refine xJ (l2:=[vU (UInt8.ofNat k)]) (r1.keep (st2 [])) (st2 []).sep (by rw[ah9 (by omega)];exact r2.read (st2 []).sep) u30 ty5 rfl (by simp[qg]) (by simp;omega) (by decide) fun s' tag3 I3 st3 r3=>?_
   refine⟨s',rfl,hQ s' tag3 I3 (st.trans ((st2 _).trans (st3 _ (.inr (by simp))))) ?_⟩
   rw[<-he]
   rw[qC,if_pos (by omega),List.map_append]
   exact r3
def wo(a:Str×Bool)(n:Int):Str×Bool:=if qK n then(a.1++qC n.toNat,a.2)else(a.1,true)
theorem kR(a:Str×Bool)(n:Int):(wo a n).1.length<=a.1.length+9:=by
 unfold wo
 split
 .rename_i h
  unfold qK at h
  simp only[Bool.and_eq_true,decide_eq_true_eq]at h
  have:=(acW 8 n.toNat (by omega)).2
  simp;omega
 .simp
theorem aeV{r W:Nat}{a:Str×Bool}{n:Int}{Q:AH->Prop}(h:wm tag I r W a.1 a.2)(hr:r≠1)(hs:SL.Sep ro I)(hl:a.1.length+9<=140737488355328)
  (hQ:∀ tag' I',qf [r,r+64,1] ro tag I tag' I'->wm tag' I' r W (wo a n).1 (wo a n).2->Q I'):xv B ro (some ⟨W,0,none⟩) n I Q:=by
 refine adC fun _=>?_
 unfold ua
 refine agC ?_
 unfold wo at hQ
 by_cases hn:qK n=true
 .rw[if_neg (by simp[hn])]
  simp only[hn,if_true]at hQ
  have hn':=hn
  unfold qK at hn'
  simp only[Bool.and_eq_true,decide_eq_true_eq]at hn'
  refine⟨_,rfl,?_⟩
  obtain⟨k,rfl⟩:=Int.eq_ofNat_of_zero_le hn'.1
  rw[Int.toNat_natCast]at hQ
  refine akL (tag:=tag) hs (by omega) fun s tag1 I1 st1 r1=>?_
  have hk:=(acW 8 k (by omega)).2
  refine aef (d:=qC k) (h.keep st1 (by simpa using hr) (by simp)) st1.sep (by omega) (by rw[r1.len];simp) (fun tag2 I2 st2=>(r1.keep st2 (by simp;omega)).read st2.sep) fun _ _ tag2 I2 st2 h2=>?_
  exact hQ tag2 I2 ((st1.mono (by simp)).trans (st2.mono (by simp))) h2
 .rw[if_pos (by simpa using hn)]
  simp only[hn]at hQ
  obtain⟨s0,hcap,lr,h1,h2⟩:=h
  refine⟨_,rfl,?_⟩
  refine h1.st (i:=3) hs rfl (by simp) rfl fun I1 st1 r1=>?_
  exact hQ tag I1 (st1.mono (by simp)) ⟨s0,hcap,lr,r1,h2.keep st1⟩
theorem adD{r:Nat}{Q:Option Addr->AH->Prop}(hQ:∀ W tag' I',(∀R,qf R ro tag I tag' I')->wm tag' I' r W [] false->Q (some ⟨W,0,none⟩) I'):yp B ro I Q:=by
 refine ad3 fun hs=>?_
 unfold uB
 refine ql (tag:=tag) r hs fun W tag1 I1 st1 r1=>?_
 exact hQ W tag1 I1 st1 ⟨⟨none,0,0⟩,by decide,0,r1,Row.nil _ _⟩
theorem akM:¬ (i64.wrap (0+1)<((1:Nat):Int)):=by decide
def vZ(a:Str×Bool)(p:Str):Str×Bool:=((wo a p.length).1++p,(wo a p.length).2)
theorem abV(a:Str×Bool)(p:Str):(vZ a p).1.length<=a.1.length+9+p.length:=by
 have:=kR a p.length
 unfold vZ;simp;omega
theorem afD{r W x q:Nat}{a:Str×Bool}{p:Str}{Q:AH->Prop}(h:wm tag I r W a.1 a.2)(hr:r≠1)(hq:q≠r/\q≠r+64/\q≠1)(hs:SL.Sep ro I)(hl:a.1.length+9+p.length<=140737488355328)(hx:Row tag I q 9 ⟨some ⟨x,0,none⟩,1,1⟩ [Pa.vS p])
  (hQ:∀ tag' I',qf [r,r+64,1] ro tag I tag' I'->wm tag' I' r W (vZ a p).1 (vZ a p).2->Q I'):zY B ro (some ⟨W,0,none⟩) ⟨some ⟨x,0,none⟩,1,1⟩ I Q:=by
 refine ac1 fun _=>?_
 unfold yY
 refine lfpD.intro ?_
 unfold yv
 rw[if_pos (by simp)]
 refine⟨_,rfl,by decide,by simp,S p,hx.cell1 hs,_,rfl,?_⟩
 have hlen:=kR a p.length
 rw[show((S p).size:Int)=(p.length:Nat)from by rw[<-zu,L_S]]
 refine aeV h hr hs (by omega) fun tag1 I1 st1 h1=>?_
 refine⟨_,rfl,?_⟩
 refine afk h1 st1.sep (by rw[L_S];omega) fun _ _ tag2 I2 st2 h2=>?_
 rw[L_S]at h2
 refine lfpD.intro ?_
 rw[if_neg (show¬(i64.wrap (0+1)<((⟨some ⟨x,0,none⟩,1,1⟩:Sl).len:Int))from akM)]
 exact hQ tag2 I2 (st1.trans (st2.mono (by simp))) h2
theorem afE{r W x q:Nat}{a:Str×Bool}{s:Sl}{p:Str}{Q:AH->Prop}(h:wm tag I r W a.1 a.2)(hr:r≠1)(hq:q≠r/\q≠r+64/\q≠1)(hs:SL.Sep ro I)(hl:a.1.length+9+p.length<=140737488355328)(hx:Row tag I q 24 ⟨some ⟨x,0,none⟩,1,1⟩ [Sl.v s])(hsl:s.len=p.length)
  (hsrc:∀ tag' I',qf [r,r+64,1] ro tag I tag' I'->SL.qy ro I' s (p.map vU)) (hQ:∀ tag' I',qf [r,r+64,1] ro tag I tag' I'->wm tag' I' r W (vZ a p).1 (vZ a p).2->Q I'):
  vM B ro (some ⟨W,0,none⟩) ⟨some ⟨x,0,none⟩,1,1⟩ I Q:=by
 refine ac2 fun _=>?_
 unfold yZ
 refine lfpD.intro ?_
 unfold yw
 rw[if_pos (by simp)]
 refine⟨_,rfl,by decide,by simp,s,hx.cell1 hs,_,rfl,?_⟩
 have hlen:=kR a p.length
 rw[hsl]
 refine aeV h hr hs (by omega) fun tag1 I1 st1 h1=>?_
 refine⟨_,rfl,?_⟩
 have wid:∀ x∈[r,r+64],x∈[r,r+64,1]:=fun x hx=>by
  simp only[List.mem_cons,List.not_mem_nil,or_false]at hx⊢
  rcases hx with h | h<;>simp[h]
 refine aef (d:=p) h1 st1.sep (by omega) hsl (fun tag2 I2 st2=>hsrc tag2 I2 (st1.trans (st2.mono wid))) fun _ _ tag2 I2 st2 h2=>?_
 refine lfpD.intro ?_
 rw[if_neg (show¬(i64.wrap (0+1)<((⟨some ⟨x,0,none⟩,1,1⟩:Sl).len:Int))from akM)]
 exact hQ tag2 I2 (st1.trans (st2.mono wid)) h2
theorem adX{r W q:Nat}{s:Sl}{Q:AH->Prop}(hr:r≠1)(hq:q≠r/\q≠r+64/\q≠1){ns:List Int}{a:Str×Bool}(h:wm tag I r W a.1 a.2)(hs:SL.Sep ro I)(hl:a.1.length+9*ns.length<=140737488355328)(hx:Row tag I q 3 s (ns.map Zt.vI))
  (hQ:∀ tag' I',qf [r,r+64,1] ro tag I tag' I'->wm tag' I' r W (ns.foldl wo a).1 (ns.foldl wo a).2->Q I'):wb B ro (some ⟨W,0,none⟩) s I Q:=by
 refine aar fun _=>?_
 unfold jv
 have hsl:s.len=ns.length:=by rw[hx.len,List.length_map]
 suffices∀(m j:Nat) (tag1:Nat->Nat) (I1:AH),j+m=ns.length->qf [r,r+64,1] ro tag I tag1 I1->((ns.take j).foldl wo a).1.length<=a.1.length+9*j->wm tag1 I1 r W ((ns.take j).foldl wo a).1 ((ns.take j).foldl wo a).2->lfpD (wL B ro (some ⟨W,0,none⟩) s Q) (j:Int) I1 from
  this _ 0 tag I (Nat.zero_add _) (qf.refl hs) (by simp) (by simpa using h)
 intro m
 induction m with
 | zero=>
  intro j tag1 I1 hj st _ h1
  refine lfpD.intro ?_
  unfold wL
  rw[if_neg (by omega)]
  rw[List.take_of_length_le (by omega)]at h1
  exact hQ tag1 I1 st h1
 | succ m ih=>
  intro j tag1 I1 hj st hln h1
  have hjl:j<ns.length:=by omega
  have hx1:=hx.keep st (by simp;omega)
  obtain⟨p,hp,hg⟩:=hx1.ptr st.sep (by simp;omega)
  refine lfpD.intro ?_
  unfold wL
  rw[if_pos (by omega)]
  refine⟨p,hp,by omega,by omega,ns[j],?_,_,rfl,?_⟩
  .have:=hg j (Zt.vI ns[j]) (by rw[List.getElem?_map,List.getElem?_eq_getElem hjl];rfl)
   rw[Int.toNat_natCast];exact this
  .refine aeV h1 hr st.sep (by omega) fun tag2 I2 st2 h2=>?_
   rw[Pa.inc j (by omega)]
   have e:(ns.take (j+1)).foldl wo a=wo ((ns.take j).foldl wo a) ns[j]:=by
    rw[List.take_add_one,List.getElem?_eq_getElem hjl,List.foldl_append];rfl
   have:=kR ((ns.take j).foldl wo a) ns[j]
   exact ih (j+1) tag2 I2 (by omega) (st.trans st2) (by rw[e];omega) (by rw[e];exact h2)
theorem aiG{r W:Nat}{a:Str×Bool}{Q:Sl->Int->AH->Prop}(h:wm tag I r W a.1 a.2)(hs:SL.Sep ro I)(hl:a.1.length<=140737488355328)
  (hbad:a.2=true->Q ⟨none,0,0⟩ 10 I) (hgood:a.2=false->∀ s tag' I',(∀R,qf R ro tag I tag' I')->Row tag' I' 6 5 s (a.1.map vU)->Q s 0 I'):xt B ro (some ⟨W,0,none⟩) I Q:=by
 refine adz fun _=>?_
 unfold pX
 obtain⟨s0,hcap,lr,h1,h2⟩:=h
 obtain⟨p,hp,hg⟩:=h1.ptr hs (by simp)
 cases hp
 refine⟨_,rfl,a.2,hg 3 _ rfl,?_⟩
 by_cases hb:a.2=true
 .rw[if_pos hb];exact hbad hb
 .rw[if_neg hb]
  refine⟨_,rfl,?_⟩
  refine acz fun _=>?_
  unfold yu
  refine⟨_,rfl,_,rfl,s0,hg 0 _ rfl,0,hg 1 _ rfl,⟨trivial,by decide,by simp only[cutHi];omega⟩,?_⟩
  rw[show(⟨wy s0.a (Int.toNat 0) s0.cap 1,s0.len - Int.toNat 0,s0.cap - Int.toNat 0⟩:Sl)=s0 from by rw[show Int.toNat 0=0 from rfl,jt];rfl]
  refine abD (tag:=tag) (h2.read hs) hs (by simp;omega) (age _) fun s' tag1 I1 st1 r1=>?_
  exact hgood (by simpa using hb) s' tag1 I1 st1 r1
theorem alu(c:UInt8):ke .u8 (c.toNat:Int) 127=((c.toNat%128:Nat):Int):=by
 have h:∀ c:Fin 256,ke .u8 ((c.val:Nat):Int) 127=((c.val%128:Nat):Int):=by decide+kernel
 exact h ⟨c.toNat,ah7 c⟩
theorem ahm{n i:Nat}(c:UInt8)(hi:i<=8)(hn:n<128 ^ i):
  kx .i64 (n:Int) (i64.wrap ((i64.wrap (ke .u8 (c.toNat:Int) 127))*2 ^ (min (Int.toNat (i64.wrap (7*(i:Int)))) 64)))=((n+128 ^ i*(c.toNat%128):Nat):Int):=by
 have hm:c.toNat%128<128:=Nat.mod_lt _ (by decide)
 rw[alu]
 generalize c.toNat%128=m at hm
 rw[qW (n:=(m:Int)) (by omega) (by omega),qW (n:=7*(i:Int)) (by omega) (by omega)]
 have hp:(2:Int) ^ (min (Int.toNat (7*(i:Int))) 64)=((128 ^ i:Nat):Int):=by
  have:i=0\/i=1\/i=2\/i=3\/i=4\/i=5\/i=6\/i=7\/i=8:=by omega
  rcases this with rfl | rfl | rfl | rfl | rfl | rfl | rfl | rfl | rfl<;>decide
 rw[hp]
 have h8:128 ^ i<=128 ^ 8:=Nat.pow_le_pow_right (by decide) hi
 have h9:m*128 ^ i<=127*128 ^ 8:=Nat.mul_le_mul (by omega) h8
 have h9':m*128 ^ i<=9151314442816847872:=by simpa using h9
 have hn':n<72057594037927936:=Nat.lt_of_lt_of_le hn (by simpa using h8)
 rw[<-Int.natCast_mul,qW (by omega) (by omega)]
 unfold kx
 have e:(BitVec.ofInt IntKind.i64.bits (n:Int) ||| BitVec.ofInt IntKind.i64.bits ((m*128 ^ i:Nat):Int)).toNat=n+128 ^ i*m:=by
  rw[BitVec.toNat_or,BitVec.ofInt_natCast,BitVec.ofInt_natCast,BitVec.toNat_ofNat,BitVec.toNat_ofNat]
  rw[show IntKind.i64.bits=64 from rfl,Nat.mod_eq_of_lt (by omega),Nat.mod_eq_of_lt (by omega)]
  have e2:128 ^ i=2 ^ (7*i):=by rw[Nat.pow_mul]
  rw[Nat.or_comm,Nat.mul_comm m,e2,<-Nat.two_pow_add_eq_or_of_lt (by rw[<-e2];exact hn)]
  omega
 rw[e]
 have:128 ^ i*m=m*128 ^ i:=Nat.mul_comm _ _
 rw[qW (by omega) (by omega)]
theorem aiH{s:Sl}{l:Str}{Q:Int->Int->Int->AH->Prop}(h:SL.qy ro I s (l.map vU))(hl:l.length<=140737488355328)(hQ:Q (num l).1 (num l).2.1 (num l).2.2 I):aaZ B ro s 0 I Q:=by
 refine afl fun _=>?_
 unfold aa7
 have hln:s.len=l.length:=by rw[h.1,List.length_map]
 rw[if_neg (by omega)]
 refine⟨⟨trivial,by decide,by simp only[cutHi];omega⟩,?_⟩
 have e0:(⟨wy s.a (Int.toNat 0) s.cap 1,s.len - Int.toNat 0,s.cap - Int.toNat 0⟩:Sl)=s:=by rw[show Int.toNat 0=0 from rfl,jt];rfl
 suffices∀(m i:Nat),i+m=9->i<=l.length->(∀j c,j<i->l[j]?=some c->128<=c.toNat)->lfpD (jX B ro s 0 Q) (((val (l.take i):Nat):Int),(i:Int)) I from
  this 9 0 rfl (Nat.zero_le _) (fun j c h=>by omega)
 intro m
 induction m with
 | zero=>
  intro i hi hil hall
  have hi9:i=9:=by omega
  subst hi9
  refine lfpD.intro ?_
  unfold jX
  simp only[e0]
  have hnum:num l=(0,0,if l.length<9 then 12 else 13):=by unfold num;rw[uY 9 l hall]
  have hj:vR B ro s 0 Q I:=by
   unfold vR
   rw[Int.sub_zero,qW (by omega) (by omega),if_pos (by omega)]
   rw[hnum,if_neg (by omega)]at hQ
   exact hQ
  by_cases hlt:9<l.length
  .rw[if_pos (by omega)]
   have ha:s.a≠none:=fun hn=>by have:=h.2.1 hn;simp at this;subst this;simp at hlt
   obtain⟨p,hs⟩:∃ p,s.a=some p:=by
    cases hs:s.a with
    | none=>exact absurd hs ha
    | some p=>exact⟨p,rfl⟩
   .skip
    refine⟨p,by rw[show Int.toNat 0=0 from rfl,jt,hs],by decide,by omega,(l[9].toNat:Int),?_,?_⟩
    .have:=h.2.2 p hs 9 (vU l[9]) (by rw[List.getElem?_map,List.getElem?_eq_getElem hlt];rfl)
     exact this
    .rw[if_pos (by decide)];exact hj
  .rw[if_neg (by omega)];exact hj
 | succ m ih=>
  intro i hi hil hall
  refine lfpD.intro ?_
  unfold jX
  simp only[e0]
  by_cases hlt:i<l.length
  .rw[if_pos (by omega)]
   have ha:s.a≠none:=fun hn=>by have:=h.2.1 hn;simp at this;subst this;simp at hlt
   obtain⟨p,hs⟩:∃ p,s.a=some p:=by
    cases hs:s.a with
    | none=>exact absurd hs ha
    | some p=>exact⟨p,rfl⟩
   .skip
    refine⟨p,by rw[show Int.toNat 0=0 from rfl,jt,hs],by omega,by omega,(l[i].toNat:Int),?_,?_⟩
    .have:=h.2.2 p hs i (vU l[i]) (by rw[List.getElem?_map,List.getElem?_eq_getElem hlt];rfl)
     rw[Int.toNat_natCast,Nat.mul_one];exact this
    .rw[if_neg (by omega)]
     refine⟨by rw[qW (by omega) (by omega)];omega,?_⟩
     rw[ahm l[i] (by omega) (acV l i)]
     have hlen:(l.take i).length=i:=by simp;omega
     have hval:val (l.take i)+128 ^ i*(l[i].toNat%128)=val (l.take (i+1)):=by
      have e:l.take (i+1)=l.take i++[l[i]]:=by rw[List.take_add_one,List.getElem?_eq_getElem hlt];rfl
      rw[e,aep,hlen]
     rw[hval]
     by_cases hc:l[i].toNat<128
     .rw[if_pos (by omega)]
      have hscan:jW 9 l=some i:=ahk 9 l i l[i] (by omega) hall (List.getElem?_eq_getElem hlt) hc
      have hz:(l[i]?=some 0)↔l[i].toNat=0:=by
       rw[List.getElem?_eq_getElem hlt]
       refine⟨fun h=>by rw[Option.some.inj h];rfl,fun h=>congrArg some (agd h)⟩
      unfold num at hQ
      rw[hscan]at hQ
      simp only at hQ
      by_cases hz0:((l[i].toNat:Int)=0)/\((0:Int)<(i:Int))
      .rw[if_pos hz0]
       unfold xN
       rw[if_pos rfl]
       rw[if_pos (.inl ⟨by omega,hz.2 (by omega)⟩)]at hQ
       exact hQ
      .rw[if_neg hz0]
       refine agC ?_
       unfold xN
       by_cases hr:4611686018427387904<=val (l.take (i+1))
       .rw[if_pos (by simp[qK];omega)]
        rw[if_pos (.inr hr)]at hQ
        exact hQ
       .rw[if_neg (by simp[qK];omega)]
        rw[if_neg (fun h=>by
         rcases h with⟨h1,h2⟩ | h
         .exact hz0 ⟨by rw[hz.1 h2];rfl,by omega⟩
         .exact hr h)]at hQ
        rw[Int.zero_add,ahm l[i] (by omega) (acV l i),hval,qW (n:=(i:Int)) (by omega) (by omega),qW (by omega) (by omega)]
        exact hQ
     .rw[if_neg (by omega)]
      rw[Pa.inc i (by omega)]
      refine ih (i+1) (by omega) (by omega) fun j c hj hjc=>?_
      rcases Nat.lt_or_ge j i with h1 | h1
      .exact hall j c h1 hjc
      .have:j=i:=by omega
       subst this
       rw[List.getElem?_eq_getElem hlt]at hjc
       cases hjc;omega
  .rw[if_neg (by omega)]
   have hnone:jW 9 l=none:=uY 9 l fun j c _ hjc=>hall j c (by
    rcases Nat.lt_or_ge j l.length with h | h
    .omega
    .rw[List.getElem?_eq_none h]at hjc;cases hjc) hjc
   unfold num at hQ
   rw[hnone]at hQ
   simp only at hQ
   unfold vR
   rw[Int.sub_zero,qW (by omega) (by omega),if_neg (by omega)]
   rw[if_pos (by omega)]at hQ
   exact hQ
end Wi
namespace Zt
open Go SL G Pa Wi
variable{B:World}{ro I I':AH}{tag tag':Nat->Nat}
theorem akN:prog.underlying 5=some (.int .u8):=by kernel_rfl
theorem ag0{P:Program}{f:Value->ByteArray->Sem (ForInStep ByteArray)}(hf:∀ (c:UInt8) (r:ByteArray),f (vU c) r=Sem.pure (.yield (r.push c))):
  ∀(l:Str) (s:Str),(forIn (l.map vU) (S s) f:Sem ByteArray)=Sem.pure (S (s++l)):=by
 intro l
 induction l with
 | nil=>intro s;simp;rfl
 | cons c l ih=>
  intro s
  simp only[List.map_cons,List.forIn_cons]
  rw[hf]
  show(match ForInStep.yield ((S s).push c)with | _=>_:Sem ByteArray)=_
  have e:(S s).push c=S (s++[c]):=by unfold S;simp[ByteArray.push]
  show forIn (l.map vU) ((S s).push c) f=_
  rw[e,ih]
  simp
theorem abm{s:Sl}{l:Str}{K:Value->AH->Prop}(h:SL.qy ro I s (l.map vU))(hK:K (.string (S l)) I):awp prog ro (convert 24 9 (Sl.v s)) K I:=by
 unfold convert
 simp only[qw]
 rw[qu u30,qu u9]
 simp only[Sl.v]
 rw[qu akN]
 simp only
 unfold Conv.bytesToString
 cases hs:s.a with
 | none=>
  have:l=[]:=by have:=h.2.1 hs;simpa using this
  subst this
  exact hK
 | some p=>
  simp only
  rw[h.1]
  refine(vf _ _).2 ?_
  refine vH (l.map vU) 0 #[] (wr 0 fun j v hj=>by rw[Nat.zero_add];exact h.2.2 p hs j v hj) ?_
  simp only[List.nil_append,List.forIn_toArray,Array.empty_append]
  refine(vf _ _).2 ?_
  refine cast (congrArg (fun z=>awp prog ro z _ I) (ag0 (P:=prog) ?_ l [])).symm ?_
  .intro c r
   simp only[vU]
   show Sem.pure (ForInStep.yield (r.push (UInt8.ofNat (Int.toNat (c.toNat:Int)))))=_
   rw[Int.toNat_natCast];simp
  .exact hK
theorem afm{a b:Sl}{x y:Str}{Q:Bool->AH->Prop}(ha:SL.qy ro I a (x.map vU))(hb:SL.qy ro I b (y.map vU))(hQ:Q (decide (x=y)) I):pr B ro a b I Q:=by
 refine afY fun _=>?_
 unfold abF
 refine abm ha ⟨S x,rfl,abm hb ⟨S y,rfl,?_⟩⟩
 rw[show decide (S x=S y)=decide (x=y)from by simp only[ahX]]
 exact hQ
end Zt
namespace Wi
open Go SL G Zt
variable{B:World}{ro I I':AH}{tag tag':Nat->Nat}
def pa(tag:Nat->Nat)(I:AH)(q:Nat)(s:Sl)(l:Str):Prop:=
 (s=⟨none,0,0⟩/\l=[])\/∃ (g:Nat) (cs:Array Value) (k:Nat),s.a=some ⟨g,k,none⟩/\tag g=q/\I g=some (.cells cs 5)/\s.len=l.length/\s.len<=s.cap/\∀ (i:Nat) (c:UInt8),l[i]?=some c->cs[k+i]?=some (vU c)
theorem pa.len{q:Nat}{s:Sl}{l:Str}(h:pa tag I q s l):s.len=l.length:=by
 rcases h with⟨rfl,rfl⟩ | ⟨_,_,_,_,_,_,h,_⟩
 .rfl
 .exact h
theorem pa.cap{q:Nat}{s:Sl}{l:Str}(h:pa tag I q s l):s.len<=s.cap:=by
 rcases h with⟨rfl,rfl⟩ | ⟨_,_,_,_,_,_,_,h,_⟩
 .exact Nat.le_refl _
 .exact h
theorem pa.keep{R:List Nat}{q:Nat}{s:Sl}{l:Str}(h:pa tag I q s l)(k:qf R ro tag I tag' I')(hr:q∉R:=by simp):pa tag' I' q s l:=by
 rcases h with h | ⟨g,cs,o,ha,ht,hb,hx⟩
 .exact .inl h
 .obtain⟨t,e⟩:=k.keep g _ hb (by rw[ht];exact hr)
  exact .inr ⟨g,cs,o,ha,t.trans ht,e,hx⟩
theorem pa.of_row{q:Nat}{s:Sl}{l:Str}(h:Row tag I q 5 s (l.map vU)):pa tag I q s l:=by
 rcases h with⟨rfl,h⟩ | ⟨b,cs,ha,ht,hb,hln,hc,hle,hg⟩
 .exact .inl ⟨rfl,by simpa using h⟩
 .refine .inr ⟨b,cs,0,ha,ht,hb,by rw[hln,List.length_map],hle,fun i c hi=>?_⟩
  have hil:i<l.length:=by
   rcases Nat.lt_or_ge i l.length with h | h
   .exact h
   .rw[List.getElem?_eq_none h]at hi;cases hi
  rw[Nat.zero_add,hg i (by simpa using hil),List.getElem?_map,hi];rfl
theorem pa.read{q:Nat}{s:Sl}{l:Str}(h:pa tag I q s l)(hs:SL.Sep ro I):SL.qy ro I s (l.map vU):=by
 refine⟨by rw[h.len,List.length_map],fun hn=>?_,fun p hp i v hv=>?_⟩
 .rcases h with⟨_,rfl⟩ | ⟨_,_,_,ha,_⟩
  .rfl
  .rw[hn]at ha;cases ha
 .rcases h with⟨rfl,_⟩ | ⟨g,cs,k,ha,ht,hb,hln,hle,hg⟩
  .cases hp
  .rw[hp]at ha;cases ha
   rw[List.getElem?_map]at hv
   obtain⟨c,hc,rfl⟩:=Option.map_eq_some_iff.1 hv
   unfold qa rd
   simp only[wN,hs g _ hb,hb,wM]
   exact hg i c hc
theorem pa.drop{q e:Nat}{s:Sl}{l:Str}(h:pa tag I q s l)(he:e<=l.length):pa tag I q ⟨wy s.a e s.cap 1,s.len - e,s.cap - e⟩ (l.drop e):=by
 rcases h with⟨rfl,rfl⟩ | ⟨g,cs,k,ha,ht,hb,hln,hle,hg⟩
 .have:e=0:=by simpa using he
  subst this
  exact .inl ⟨by simp[wy],rfl⟩
 .unfold wy
  by_cases hc:s.cap=e
  .rw[if_pos hc]
   refine .inr ⟨g,cs,k,ha,ht,hb,by simp;omega,by simp;omega,fun i c hi=>?_⟩
   rw[List.drop_of_length_le (by omega)]at hi;cases hi
  .rw[if_neg hc]
   refine .inr ⟨g,cs,k+e,by simp[ha,wN],ht,hb,by simp;omega,by simp;omega,fun i c hi=>?_⟩
   rw[List.getElem?_drop]at hi
   rw[Nat.add_assoc];exact hg (e+i) c hi
theorem pa.takeR{q n:Nat}{s:Sl}{l:Str}(h:pa tag I q s l)(hs:SL.Sep ro I)(hn:n<=l.length):SL.qy ro I ⟨wy s.a 0 s.cap 1,n - 0,s.cap - 0⟩ ((l.take n).map vU):=by
 have hr:=h.read hs
 rw[jt]
 refine⟨by simp;omega,fun ha=>?_,fun p hp i v hv=>?_⟩
 .have:=hr.2.1 ha
  have:l=[]:=by simpa using this
  rw[this];simp
 .refine hr.2.2 p hp i v ?_
  rw[List.map_take,List.getElem?_take]at hv
  split at hv
  .exact hv
  .cases hv
def yx(tag:Nat->Nat)(I:AH)(r A:Nat)(x:Rd):Prop:=
 ∃s:Sl,Row tag I r 231 ⟨some ⟨A,0,none⟩,2,2⟩ [Sl.v s,Zt.vI x.err]/\pa tag I 6 s x.rest/\x.rest.length<=140737488355328
theorem yx.keep{R:List Nat}{r A:Nat}{x:Rd}(h:yx tag I r A x)(k:qf R ro tag I tag' I')(h1:r∉R:=by simp)(h2:6∉R:=by simp):yx tag' I' r A x:=by
 obtain⟨s,a,b,c⟩:=h
 exact⟨s,a.keep k h1,b.keep k h2,c⟩
theorem adE{r:Nat}{a:Sl}{b:Str}{Q:Option Addr->AH->Prop}(h:SL.qy ro I a (b.map vU))(hs:SL.Sep ro I)(hl:b.length<=140737488355328)(hQ:∀ A tag' I',(∀R,qf R ro tag I tag' I')->yx tag' I' r A ⟨b,0⟩->Q (some ⟨A,0,none⟩) I'):
  yq B ro a I Q:=by
 refine ad4 fun _=>?_
 unfold uC
 refine abD (tag:=tag) h hs (by simp;omega) (age _) fun s tag1 I1 st1 r1=>?_
 refine ql (tag:=tag1) r (st1 []).sep fun A tag2 I2 st2 r2=>?_
 exact hQ A tag2 I2 (fun R=>(st1 R).trans (st2 R)) ⟨s,r2,pa.of_row (r1.keep (st2 [])),hl⟩
theorem ahn{r A:Nat}{x:Rd}{Q:Int->AH->Prop}(h:yx tag I r A x)(hs:SL.Sep ro I)(hQ:Q (x.rest.length:Nat) I):js B ro (some ⟨A,0,none⟩) I Q:=by
 refine adj fun _=>?_
 unfold pE
 obtain⟨s,a,b,c⟩:=h
 obtain⟨p,hp,hg⟩:=a.ptr hs (by simp)
 cases hp
 refine⟨_,rfl,s,hg 0 _ rfl,?_⟩
 rw[b.len];exact hQ
theorem afn{r A:Nat}{x:Rd}{Q:Int->AH->Prop}(h:yx tag I r A x)(hs:SL.Sep ro I)(hQ:Q x.err I):xu B ro (some ⟨A,0,none⟩) I Q:=by
 refine adB fun _=>?_
 unfold pZ
 obtain⟨s,a,b,c⟩:=h
 obtain⟨p,hp,hg⟩:=a.ptr hs (by simp)
 cases hp
 exact⟨_,rfl,x.err,hg 1 _ rfl,hQ⟩
theorem zU{r A:Nat}{x:Rd}{Q:Int->AH->Prop}(h:yx tag I r A x)(h6:r≠6)(hs:SL.Sep ro I)(hQ:∀ I',qf [r] ro tag I tag I'->yx tag I' r A (qo x).2->Q ((qo x).1:Nat) I'):qL B ro (some ⟨A,0,none⟩) I Q:=by
 refine adA fun _=>?_
 unfold pY
 obtain⟨s,a,b,c⟩:=id h
 obtain⟨p,hp,hg⟩:=a.ptr hs (by simp)
 cases hp
 refine⟨_,rfl,x.err,hg 1 _ rfl,?_⟩
 by_cases he:x.err=0
 .rw[if_neg (by simpa using he)]
  refine⟨_,rfl,s,hg 0 _ rfl,?_⟩
  refine aiH (b.read hs) c ?_
  have hrn:qo x=((num x.rest).1,⟨x.rest.drop (num x.rest).2.1,(num x.rest).2.2⟩):=by unfold qo;rw[if_neg (by simpa using he)]
  rw[hrn]at hQ
  have hle:=agy x.rest
  have hln:=b.len
  have hcp:=b.cap
  refine⟨_,rfl,?_⟩
  refine a.st (i:=1) hs rfl (by simp) rfl fun I1 st1 r1=>?_
  obtain⟨p1,hp1,hg1⟩:=r1.ptr st1.sep (by simp)
  cases hp1
  refine⟨_,rfl,s,hg1 0 _ rfl,⟨trivial,by omega,by simp only[cutHi];omega⟩,_,rfl,?_⟩
  rw[Int.toNat_natCast]
  refine r1.st (i:=0) st1.sep rfl (by simp) rfl fun I2 st2 r2=>?_
  refine hQ I2 (st1.trans st2) ⟨_,r2,((b.drop hle.1).keep st1 (by simpa using fun h=>h6 h.symm)).keep st2 (by simpa using fun h=>h6 h.symm),by simp;omega⟩
 .rw[if_pos (by simpa using he)]
  rw[aeq he]at hQ
  exact hQ I (qf.refl hs) h
theorem adF{r A:Nat}{x:Rd}{Q:Sl->AH->Prop}(h:yx tag I r A x)(h6:r≠6)(hs:SL.Sep ro I)
  (hQ:∀ s tag' I',qf [r] ro tag I tag' I'->Row tag' I' 6 5 s ((qO x).1.map vU)->yx tag' I' r A (qO x).2->Q s I'):kh B ro (some ⟨A,0,none⟩) I Q:=by
 refine adi fun _=>?_
 unfold pD
 obtain⟨s,a,b,c⟩:=id h
 obtain⟨p,hp,hg⟩:=a.ptr hs (by simp)
 cases hp
 refine⟨_,rfl,s,hg 0 _ rfl,?_⟩
 refine zU h h6 hs fun I1 st1 h1=>?_
 have h61:6∉[r]:=by simpa using fun h=>h6 h.symm
 obtain⟨s1,a1,b1,c1⟩:=id h1
 obtain⟨p1,hp1,hg1⟩:=a1.ptr st1.sep (by simp)
 cases hp1
 refine⟨_,rfl,_,hg1 1 _ rfl,?_⟩
 by_cases he:(qo x).2.err=0
 .rw[if_neg (by simpa using he)]
  refine⟨_,rfl,s1,hg1 0 _ rfl,?_⟩
  have hln1:=b1.len
  have hcp1:=b1.cap
  by_cases hlt:(qo x).2.rest.length<(qo x).1
  .rw[if_pos (by omega)]
   have hrb:qO x=([],⟨x.rest,12⟩):=by unfold qO;rw[if_neg (by simpa using he),if_pos hlt]
   rw[hrb]at hQ
   refine⟨_,rfl,?_⟩
   refine a1.st (i:=1) st1.sep rfl (by simp) rfl fun I2 st2 r2=>?_
   refine⟨_,rfl,?_⟩
   refine r2.st (i:=0) st2.sep rfl (by simp) rfl fun I3 st3 r3=>?_
   exact hQ ⟨none,0,0⟩ tag I3 (st1.trans (st2.trans st3)) (Row.nil 6 5) ⟨s,r3,((b.keep st1 h61).keep st2 h61).keep st3 h61,c⟩
  .rw[if_neg (by omega)]
   have hrb:qO x=((qo x).2.rest.take (qo x).1,⟨(qo x).2.rest.drop (qo x).1,0⟩):=by unfold qO;rw[if_neg (by simpa using he),if_neg hlt]
   rw[hrb]at hQ
   refine⟨_,rfl,s1,hg1 0 _ rfl,⟨⟨by omega,by omega⟩,trivial⟩,?_⟩
   rw[Int.toNat_natCast]
   refine abD (tag:=tag) (b1.takeR st1.sep (by omega)) st1.sep (by simp;omega) (age _) fun s2 tag2 I2 st2 r2=>?_
   have a2:=a1.keep (st2 [])
   obtain⟨p2,hp2,hg2⟩:=a2.ptr (st2 []).sep (by simp)
   cases hp2
   refine⟨_,rfl,s1,hg2 0 _ rfl,⟨trivial,by omega,by simp only[cutHi];omega⟩,_,rfl,?_⟩
   refine a2.st (i:=0) (st2 []).sep rfl (by simp) rfl fun I3 st3 r3=>?_
   rw[he]at r3
   refine hQ s2 tag2 I3 (st1.trans ((st2 _).trans st3)) (r2.keep st3 h61) ⟨_,r3,((b1.drop (by omega)).keep (st2 [])).keep st3 h61,by simp;omega⟩
 .rw[if_pos (by simpa using he)]
  have hrb:qO x=([],(qo x).2):=by unfold qO;rw[if_pos (by simpa using he)]
  rw[hrb]at hQ
  exact hQ ⟨none,0,0⟩ tag I1 st1 (Row.nil 6 5) h1
theorem adG{r A:Nat}{x:Rd}{Q:ByteArray->AH->Prop}(h:yx tag I r A x)(h6:r≠6)(hs:SL.Sep ro I)
  (hQ:∀ tag' I',qf [r] ro tag I tag' I'->yx tag' I' r A (qO x).2->Q (S (qO x).1) I'):kf B ro (some ⟨A,0,none⟩) I Q:=by
 refine adh fun _=>?_
 unfold pC
 refine adF h h6 hs fun s tag1 I1 st1 r1 h1=>?_
 exact abm (r1.read st1.sep) ⟨_,rfl,hQ tag1 I1 st1 h1⟩
end Wi
namespace Zt
open Go SL G Pa Wi
variable{B:World}{ro I I':AH}{tag tag':Nat->Nat}
theorem uh.keepS{C:List Nat}{r T:Nat}{st:St}(h:uh tag I r T st)(k:qd C ro tag I tag' I')(hr:r%64∉C:=by decide)(h6:6∉C:=by decide):uh tag' I' r T st:=by
 obtain⟨R,h1,h2⟩:=k
 exact h.keep h2 fun x hx=>⟨fun e=>hr (by rw[<-e];exact h1 x hx),fun e=>h6 (by have:=h1 x hx;rw[e]at this;exact this)⟩
end Zt
namespace Zt
open Go SL Pa
structure MOp where
 kind:Int
 path:Str
 data:Str
 ver:Int
 eph:Bool
 seq:Bool
end Zt
namespace G
open Go SL
variable{B:World}{ro I:AH}
def aaa(B:World)(ro:AH)(u0:Option Addr)(Q:Sl->Int->AH->Prop)(I:AH):=
 xt B ro u0 I fun u1 u2 I=>
 Q u1 u2 I
def kT(B:World)(ro:AH)(a0:Sl)(u0:Nat)(u1:Option Addr)(u2:Int)(Q:Sl->Int->AH->Prop)(Y6:Int->AH->Prop)(u3:Bool)(I:AH):=
 if u3=true then
 Q (⟨none,0,0⟩:Sl) 80 I
 else
 ∃u4,qa ro I ⟨u0,0,none⟩=some (.int .i64 u4)/\
 nw ro I (.cells #[.int .i64 u4] 3) fun u5 I=>
 wb B ro u1 (⟨some ⟨u5,0,none⟩,1,1⟩:Sl) I fun I=>
 ∃u6,qa ro I ((⟨u0,0,none⟩:Addr).add 1)=some (.string u6)/\
 nw ro I (.cells #[.string u6] 9) fun u7 I=>
 zY B ro u1 (⟨some ⟨u7,0,none⟩,1,1⟩:Sl) I fun I=>
 ∃u8,qa ro I ((⟨u0,0,none⟩:Addr).add 2)=some (Sl.v u8)/\
 nw ro I (.cells #[Sl.v u8] 24) fun u9 I=>
 vM B ro u1 (⟨some ⟨u9,0,none⟩,1,1⟩:Sl) I fun I=>
 pn I fun U I=>
 ∃u10,qa (join ro U) (fun _=>none) ((⟨u0,0,none⟩:Addr).add 3)=some (.int .i64 u10)/\
 ∃u11 u12 u13 u14 u15 u16,qj (join ro U) I ⟨u0,0,none⟩ 0 [.int .i64 u11,.string u12,Sl.v u13,.int .i64 u14,.bool u15,.bool u16]/\
 aa0 B (join ro U) u11 u12 u13 u14 u15 u16 I fun u17 I=>
 nw (join ro U) I (.cells #[.int .i64 (i64.wrap (u10+1)),.int .i64 u17] 3) fun u18 I=>
 wb B (join ro U) u1 (⟨some ⟨u18,0,none⟩,2,2⟩:Sl) I fun I=>
 (qz U I->(fun I=>
  Y6 (i64.wrap (u2+1)) I) (join U I))
def kV(B:World)(ro:AH)(a0:Sl)(u0:Nat)(u1:Option Addr)(u2:Int)(Q:Sl->Int->AH->Prop)(Y6:Int->AH->Prop)(u3:Bool)(I:AH):=
 if u3=true then
 kT B ro a0 u0 u1 u2 Q Y6 true I
 else
 ∃u4,qa ro I ((⟨u0,0,none⟩:Addr).add 3)=some (.int .i64 u4)/\
 kT B ro a0 u0 u1 u2 Q Y6 (decide (4611686018427387903<=u4)) I
def kW(B:World)(ro:AH)(a0:Sl)(u0:Nat)(u1:Option Addr)(u2:Int)(Q:Sl->Int->AH->Prop)(Y6:Int->AH->Prop)(u3:Bool)(I:AH):=
 if u3=true then
 kV B ro a0 u0 u1 u2 Q Y6 true I
 else
 ∃u4,qa ro I ((⟨u0,0,none⟩:Addr).add 3)=some (.int .i64 u4)/\
 kV B ro a0 u0 u1 u2 Q Y6 (decide (u4<(-1))) I
def kj(B:World)(ro:AH)(a0:Sl)(u0:Option Addr)(Q:Sl->Int->AH->Prop):Int->AH->(Int->AH->Prop)->Prop:=fun u1 I Y6=>
 if u1<(a0.len:Int)then
 ∃p2,a0.a=some p2/\(0:Int)<=u1/\u1<(a0.len:Int)/\
 ∃u3 u4 u5 u6 u7 u8,qj ro I (p2.add (Int.toNat u1*6)) 0 [.int .i64 u3,.string u4,Sl.v u5,.int .i64 u6,.bool u7,.bool u8]/\
 nw ro I (.cells #[.int .i64 0,.string ByteArray.empty,Sl.v (⟨none,0,0⟩:Sl),.int .i64 0,.bool false,.bool false] 72) fun u9 I=>
 stN ⟨u9,0,none⟩ (fun I=>
  ∃u10,qa ro I ⟨u9,0,none⟩=some (.int .i64 u10)/\
  if u10<1 then
  kW B ro a0 u9 u0 u1 Q Y6 true I
  else
  ∃u11,qa ro I ⟨u9,0,none⟩=some (.int .i64 u11)/\
  kW B ro a0 u9 u0 u1 Q Y6 (decide (4<u11)) I) [.int .i64 u3,.string u4,Sl.v u5,.int .i64 u6,.bool u7,.bool u8] 0 I
 else
 aaa B ro u0 Q I
def aci(B:World)(ro:AH)(a0:Sl)(I:AH)(Q:Sl->Int->AH->Prop):=
 if 16<(a0.len:Int)then
 Q (⟨none,0,0⟩:Sl) 80 I
 else
 yp B ro I fun u0 I=>
 nw ro I (.cells #[.int .i64 (a0.len:Int)] 3) fun u1 I=>
 wb B ro u0 (⟨some ⟨u1,0,none⟩,1,1⟩:Sl) I fun I=>
 lfpD (kj B ro a0 u0 Q) (0) I
theorem agD{a0:Sl}{Q:Sl->Int->AH->Prop}(h:Sep ro I->aci B ro a0 I Q):aca B ro a0 I Q:=by
 refine zb h func90 ntmps90 fun h=>?_;unfold aci at h;refine z3 ?_;iterate 2 refine zp ?_
 refine z2 (AW.seq (z3 ?_))
 refine zp ?_;refine zm (qJ rfl rfl underlying54 rfl rfl) ?_;refine zp ?_;refine z2 ?_;refine zi h (fun h=>?_) fun h=>?_
 .refine z3 ?_;iterate 2 refine zp ?_
  refine z2 ?_;refine AW.ret ?_;refine qi ?_;exact bR2 results90 rfl rfl ⟨_,_,rfl,h⟩
 refine AW.skip ?_;refine qc (z3 ?_);refine zc func43 h ?_;rintro v I ⟨u0,rfl,h⟩;refine zp ?_;refine z4 ?_;iterate 2 refine zp ?_
 refine zm (qJ rfl rfl underlying54 rfl rfl) ?_;refine zA (wI (vs:=[(0,.int .i64 (a0.len:Int))]) (cs:= #[.int .i64 (a0.len:Int)]) rfl underlying55 ty3 (by decide) rfl rfl) h fun u1 h=>?_;refine zc func44 h ?_;rintro v I ⟨rfl,h⟩;refine z2 ?_;refine AW.seqJ (fun fr I=>qk [(4,.pointer u0)] fr/\aaa B ro u0 Q I) ?_ ?_
 .rintro fr I ⟨hl,h⟩;refine AW.weaken ?_ hl (HLe.refl _)
  unfold aaa at h;refine z3 ?_;refine zp ?_;refine zc func47 h ?_;rintro v I ⟨u2,u3,rfl,h⟩;iterate 4 refine zp ?_
  refine z2 ?_;refine AW.ret ?_;exact bR2 results90 rfl rfl ⟨_,_,rfl,h⟩
 refine z3 ?_;refine zp ?_;refine zm (qJ rfl rfl underlying54 rfl rfl) ?_;refine zp ?_;refine z2 (AW.block ?_)
 refine qn.loop (fr':=[(4,.pointer u0),(16,Sl.v a0),(17,.int .i64 (a0.len:Int)),(18,.int .i64 0)]) ?_ FL
 refine h (fun u4 I=>qn _ _ _ _ _ _ [(4,.pointer u0),(16,Sl.v a0),(17,.int .i64 (a0.len:Int)),(18,.int .i64 u4)] I) ?_
 rintro u4 I Y6 hY6 h
 show AW _ _ _ _ _ _ _ _
 unfold kj at h;refine z3 ?_;refine zp ?_;refine z2 (AW.seq ?_)
 refine zi h (fun h=>?_) fun h=>?_
 rotate_left
 .refine AW.exit ?_;refine qR (qR ?_);refine wK ?_
  refine qc ?_;exact⟨FL,h⟩
 refine AW.skip ?_;refine qc (AW.seq (AW.block (z3 ?_)));obtain⟨p5,ha,h0,h1,h⟩:=h
 refine zm (vL rfl underlying54 je (ixL rfl ha) rfl h0 h1) ?_;obtain⟨u6,u7,u8,u9,u10,u11,hc,h⟩:=h
 refine zl (jb rfl underlying72 rfl je rfl hc ?_)
 refine zA (wH rfl je) h fun u12 h=>?_;refine zs je h fun I h=>?_;refine z2 (AW.seq (z3 ?_))
 refine zf underlying72 ty3 ?_;refine zL underlying3 h fun u13 h=>?_;iterate 2 refine zp ?_
 refine qq 4 (decide (u13<1)) decide_eq_true_iff h (fun fr I=> ∃(u14:Bool),qk [(4,.pointer u0),(6,.pointer (some ⟨u12,0,none⟩)),(16,Sl.v a0),(17,.int .i64 (a0.len:Int)),(18,.int .i64 u4),(29,.bool u14)] fr/\kW B ro a0 u12 u0 u4 Q Y6 u14 I) ?_ ?_ ?_
 .intro h e3 hk3;iterate 3 refine zn e3 ?_
  refine zk e3 ?_;exact hk3 _ _ ⟨_,FL,h⟩
 .intro h e3 hk3;refine qr (qx rfl underlying72 rfl ty3 (by decide) rfl) rfl rfl rfl rfl e3 ?_
  obtain⟨u15,hc,h⟩:=h
  refine Lyb rfl rfl rfl rfl e3 (qM rfl underlying3 rfl rfl hc ?_)
  refine zy e3 ?_;refine zk e3 ?_;exact hk3 _ _ ⟨_,FL,h⟩
 rintro fr I ⟨u14,hl,h⟩;unfold kW at h;refine Lfr hl ?_
 refine zp ?_;refine qq 4 u14 Iff.rfl h (fun fr I=> ∃(u16:Bool),qk [(4,.pointer u0),(6,.pointer (some ⟨u12,0,none⟩)),(16,Sl.v a0),(17,.int .i64 (a0.len:Int)),(18,.int .i64 u4),(34,.bool u16)] fr/\kV B ro a0 u12 u0 u4 Q Y6 u16 I) ?_ ?_ ?_
 .intro h e8 hk8;iterate 3 refine zn e8 ?_
  refine zk e8 ?_;exact hk8 _ _ ⟨_,FL,h⟩
 .intro h e8 hk8;refine qr (qx rfl underlying72 rfl ty3 (by decide) rfl) rfl rfl rfl rfl e8 ?_
  obtain⟨u17,hc,h⟩:=h
  refine Lyb rfl rfl rfl rfl e8 (qM rfl underlying3 rfl rfl hc ?_)
  refine zy e8 ?_;refine zk e8 ?_;exact hk8 _ _ ⟨_,FL,h⟩
 rintro fr I ⟨u16,hl,h⟩;unfold kV at h;refine Lfr hl ?_
 refine zp ?_;refine qq 4 u16 Iff.rfl h (fun fr I=> ∃(u18:Bool),qk [(4,.pointer u0),(6,.pointer (some ⟨u12,0,none⟩)),(16,Sl.v a0),(17,.int .i64 (a0.len:Int)),(18,.int .i64 u4),(39,.bool u18)] fr/\kT B ro a0 u12 u0 u4 Q Y6 u18 I) ?_ ?_ ?_
 .intro h e13 hk13;iterate 3 refine zn e13 ?_
  refine zk e13 ?_;exact hk13 _ _ ⟨_,FL,h⟩
 .intro h e13 hk13;refine qr (qx rfl underlying72 rfl ty3 (by decide) rfl) rfl rfl rfl rfl e13 ?_
  obtain⟨u19,hc,h⟩:=h
  refine Lyb rfl rfl rfl rfl e13 (qM rfl underlying3 rfl rfl hc ?_)
  refine zy e13 ?_;refine zk e13 ?_;exact hk13 _ _ ⟨_,FL,h⟩
 rintro fr I ⟨u18,hl,h⟩;unfold kT at h;refine Lfr hl ?_
 refine z2 ?_;refine zj h (fun h=>?_) fun h=>?_
 .refine z3 ?_;iterate 2 refine zp ?_
  refine z2 ?_;refine AW.ret ?_;refine qi (qQ (qi (qi (qQ (qi ?_)))));exact bR2 results90 rfl rfl ⟨_,_,rfl,h⟩
 refine AW.skip ?_;refine qc (z3 ?_);refine zp ?_;refine zf underlying72 ty3 ?_;refine zL underlying3 h fun u20 h=>?_;refine zA (wI (vs:=[(0,.int .i64 u20)]) (cs:= #[.int .i64 u20]) rfl underlying55 ty3 (by decide) rfl rfl) h fun u21 h=>?_;refine zc func44 h ?_;rintro v I ⟨rfl,h⟩;refine z4 ?_;refine zp ?_;refine zf underlying72 ty9 ?_;refine zL underlying9 h fun u22 h=>?_
 refine zA (wI (vs:=[(0,.string u22)]) (cs:= #[.string u22]) rfl underlying27 ty9 (by decide) rfl rfl) h fun u23 h=>?_;refine zc func45 h ?_;rintro v I ⟨rfl,h⟩;refine z4 ?_;refine zp ?_;refine zf underlying72 qV ?_;refine zL underlying24 h fun u24 h=>?_;refine zA (wI (vs:=[(0,Sl.v u24)]) (cs:= #[Sl.v u24]) rfl underlying227 qV (by decide) rfl rfl) h fun u25 h=>?_;refine zc func46 h ?_
 rintro v I ⟨rfl,h⟩;refine z2 ?_;refine AW.drawnL (fun i=>([0,0,0,0,3,2,1,2]:List Nat).getD i 2) [(4,5),(4,6),(4,7)] [0,1,2,3,4,5,6,7] mixed h (by decide+kernel) ?_
 clear h
 intro U I h
 refine zq ?_;refine zg underlying72 ty3 ?_;obtain⟨u26,hc,h⟩:=h
 refine Dp rfl rfl rfl rfl (zS rfl underlying3 rfl rfl hc) ?_
 refine zq ?_;obtain⟨u27,u28,u29,u30,u31,u32,hc,h⟩:=h
 refine Dr rfl rfl rfl rfl (abR rfl underlying72 rfl je rfl hc) ?_
 refine Dg rfl rfl rfl rfl (qF rfl func142 rfl rfl rfl (qb.mono h ?_))
 rintro v I ⟨u33,rfl,h⟩;refine Da rfl rfl rfl rfl (wI (vs:=[(0,.int .i64 (i64.wrap (u26+1))),(1,.int .i64 u33)]) (cs:= #[.int .i64 (i64.wrap (u26+1)),.int .i64 u33]) rfl underlying55 ty3 (by decide) rfl rfl) fun u34 g1 g2=>?_
 replace h:=h u34 g1 g2
 refine Dg rfl rfl rfl rfl (qF rfl func44 rfl rfl rfl (qb.mono h ?_))
 rintro v I ⟨rfl,h⟩;refine⟨_,wg.refl _,fun hdj=>?_⟩
 replace h:=h hdj
 refine wq (qc (AW.reg ?_));iterate 2 refine zp ?_
 refine z2 ?_;refine qn.head (fr':=[(4,.pointer u0),(16,Sl.v a0),(17,.int .i64 (a0.len:Int)),(18,.int .i64 (i64.wrap (u4+1)))]) ?_ FL
 exact hY6 _ _ h
def jY(B:World)(ro:AH)(u0:Sl)(Q:Sl->Int->AH->Prop)(u1:Bool)(I:AH):=
 if u1=true then
 Q (⟨none,0,0⟩:Sl) 13 I
 else
 Q u0 0 I
def aab(B:World)(ro:AH)(u0:Option Addr)(Q:Sl->Int->AH->Prop)(u1:Sl)(I:AH):=
 xu B ro u0 I fun u2 I=>
 if¬(u2=0)then
 jY B ro u1 Q true I
 else
 js B ro u0 I fun u3 I=>
 jY B ro u1 Q (decide (0<u3)) I
def kX(B:World)(ro:AH)(u0:Sl)(u1:Nat)(u2:Option Addr)(u3 u4 u5:Int)(Q:Sl->Int->AH->Prop)(Y9:(Sl×Int)->AH->Prop)(u6:Bool)(I:AH):=
 if(u6=true)\/(3<u5)then
 Q (⟨none,0,0⟩:Sl) 13 I
 else
 ∃u7 u8 u9 u10 u11 u12,qj ro I ⟨u1,0,none⟩ 0 [.int .i64 u7,.string u8,Sl.v u9,.int .i64 u10,.bool u11,.bool u12]/\
 nw ro I (.cells #[.int .i64 u7,.string u8,Sl.v u9,.int .i64 u10,.bool u11,.bool u12] 72) fun u13 I=>
 awp prog ro (Builtin.append_ #[54,54] 54 #[Sl.v u0,Sl.v (⟨some ⟨u13,0,none⟩,1,1⟩:Sl)]) (fun v I=> ∃(u14:Sl),v=Sl.v u14/\
 Y9 (u14,i64.wrap (u4+1)) I) I
def kY(B:World)(ro:AH)(u0:Sl)(u1:Nat)(u2:Option Addr)(u3 u4 u5:Int)(Q:Sl->Int->AH->Prop)(Y9:(Sl×Int)->AH->Prop)(u6:Bool)(I:AH):=
 if u6=true then
 kX B ro u0 u1 u2 u3 u4 u5 Q Y9 true I
 else
 ∃u7,qa ro I ⟨u1,0,none⟩=some (.int .i64 u7)/\
 kX B ro u0 u1 u2 u3 u4 u5 Q Y9 (decide (4<u7)) I
def xW(B:World)(ro:AH)(u0:Option Addr)(u1:Int)(Q:Sl->Int->AH->Prop):(Sl×Int)->AH->((Sl×Int)->AH->Prop)->Prop:=fun⟨u2,u3⟩ I Y9=>
 if u3<u1 then
 qL B ro u0 I fun u4 I=>
 kf B ro u0 I fun u5 I=>
 kh B ro u0 I fun u6 I=>
 qL B ro u0 I fun u7 I=>
 nw ro I (.cells #[.int .i64 0,.string ByteArray.empty,Sl.v (⟨none,0,0⟩:Sl),.int .i64 0,.bool false,.bool false] 72) fun u8 I=>
 stN ⟨u8,0,none⟩ (fun I=>
  qL B ro u0 I fun u9 I=>
  stN ((⟨u8,0,none⟩:Addr).add 4) (fun I=>
  stN ((⟨u8,0,none⟩:Addr).add 5) (fun I=>
   xu B ro u0 I fun u10 I=>
   if¬(u10=0)then
   kY B ro u2 u8 u0 u1 u3 u9 Q Y9 true I
   else
   ∃u11,qa ro I ⟨u8,0,none⟩=some (.int .i64 u11)/\
   kY B ro u2 u8 u0 u1 u3 u9 Q Y9 (decide (u11<1)) I) [.bool (!(decide ((ke .i64 u9 2)=0)))] 0 I) [.bool (!(decide ((ke .i64 u9 1)=0)))] 0 I) [.int .i64 u4,.string u5,Sl.v u6,.int .i64 (i64.wrap (u7 - 1)),.bool false,.bool false] 0 I
 else
 aab B ro u0 Q u2 I
def acj(B:World)(ro:AH)(a0:Sl)(I:AH)(Q:Sl->Int->AH->Prop):=
 yq B ro a0 I fun u0 I=>
 qL B ro u0 I fun u1 I=>
 if 16<u1 then
 Q (⟨none,0,0⟩:Sl) 13 I
 else
 lfpD (xW B ro u0 u1 Q) ((⟨none,0,0⟩:Sl),0) I
theorem agE{a0:Sl}{Q:Sl->Int->AH->Prop}(h:Sep ro I->acj B ro a0 I Q):aaJ B ro a0 I Q:=by
 refine zb h func94 ntmps94 fun h=>?_;unfold acj at h;refine z3 ?_;iterate 2 refine zp ?_
 refine z4 ?_;refine zp ?_;refine zc func53 h ?_;rintro v I ⟨u0,rfl,h⟩;refine zp ?_;refine z4 ?_;refine zp ?_;refine zc func54 h ?_;rintro v I ⟨u1,rfl,h⟩;refine zp ?_;refine z2 (AW.seq (z3 ?_))
 iterate 2 refine zp ?_
 refine z2 ?_;refine zi h (fun h=>?_) fun h=>?_
 .refine z3 ?_;iterate 2 refine zp ?_
  refine z2 ?_;refine AW.ret ?_;refine qi ?_;exact bR2 results94 rfl rfl ⟨_,_,rfl,h⟩
 refine AW.skip ?_;refine qc (z3 ?_);refine zp ?_;refine z2 ?_;refine AW.seqJ (fun fr I=> ∃(u2:Sl),qk [(4,.pointer u0),(6,Sl.v u2)] fr/\aab B ro u0 Q u2 I) ?_ ?_
 .rintro fr I ⟨u2,hl,h⟩;refine AW.weaken ?_ hl (HLe.refl _)
  unfold aab at h;refine AW.seq (z3 ?_);refine zp ?_;refine zc func57 h ?_;rintro v I ⟨u3,rfl,h⟩;iterate 2 refine zp ?_
  refine qq 4 (!(decide (u3=0))) (qt decide_eq_true_iff) h (fun fr I=> ∃(u4:Bool),qk [(6,Sl.v u2),(67,.bool u4)] fr/\jY B ro u2 Q u4 I) ?_ ?_ ?_
  .intro h e3 hk3;iterate 3 refine zn e3 ?_
   refine zk e3 ?_;exact hk3 _ _ ⟨_,FL,h⟩
  .intro h e3 hk3;refine zy e3 ?_;refine Lyb rfl rfl rfl rfl e3 (qF rfl func58 rfl rfl rfl (qb.mono h ?_))
   rintro v I ⟨u5,rfl,h⟩;refine zy e3 ?_;refine zk e3 ?_;exact hk3 _ _ ⟨_,FL,h⟩
  rintro fr I ⟨u4,hl,h⟩;unfold jY at h;refine Lfr hl ?_
  refine z2 ?_;refine zj h (fun h=>?_) fun h=>?_
  .refine z3 ?_;iterate 2 refine zp ?_
   refine z2 ?_;refine AW.ret ?_;refine qi ?_;exact bR2 results94 rfl rfl ⟨_,_,rfl,h⟩
  refine AW.skip ?_;refine qc (z3 ?_);iterate 3 refine zp ?_
  refine z2 ?_;refine AW.ret ?_;exact bR2 results94 rfl rfl ⟨_,_,rfl,h⟩
 refine z3 ?_;iterate 2 refine zp ?_
 refine z2 (AW.block ?_)
 refine qn.loop (fr':=[(4,.pointer u0),(15,.int .i64 u1),(6,Sl.v (⟨none,0,0⟩:Sl)),(16,.int .i64 0)]) ?_ FL
 refine h (fun⟨u6,u7⟩ I=>qn _ _ _ _ _ _ [(4,.pointer u0),(15,.int .i64 u1),(6,Sl.v u6),(16,.int .i64 u7)] I) ?_
 rintro⟨u6,u7⟩ I Y9 hY9 h
 show AW _ _ _ _ _ _ _ _
 unfold xW at h;dsimp only at h;refine z3 ?_;refine zp ?_;refine z2 (AW.seq ?_)
 refine zi h (fun h=>?_) fun h=>?_
 rotate_left
 .refine AW.exit ?_;refine qR (qR ?_);refine wK ?_
  refine qc ?_;exact⟨_,FL,h⟩
 refine AW.skip ?_;refine qc (AW.seq (AW.block (z3 ?_)));refine zp ?_;refine zc func54 h ?_;rintro v I ⟨u8,rfl,h⟩;refine zp ?_;refine zc func55 h ?_;rintro v I ⟨u9,rfl,h⟩;refine zp ?_;refine zc func56 h ?_;rintro v I ⟨u10,rfl,h⟩;refine zp ?_;refine zc func54 h ?_;rintro v I ⟨u11,rfl,h⟩;refine zp ?_;refine zm (wV (vs:=[(0,.int .i64 u8),(1,.string u9),(2,Sl.v u10),(3,.int .i64 (i64.wrap (u11 - 1)))]) (cs:= #[.int .i64 u8,.string u9,Sl.v u10,.int .i64 (i64.wrap (u11 - 1)),.bool false,.bool false]) rfl underlying72 je alO rfl rfl) ?_
 refine zA (wH rfl je) h fun u12 h=>?_;refine zs je h fun I h=>?_;refine z4 ?_;refine zp ?_;refine zc func54 h ?_;rintro v I ⟨u13,rfl,h⟩;refine zp ?_;refine z4 ?_;refine zp ?_;refine zm (ahN rfl rfl rfl) ?_;iterate 2 refine zp ?_
 refine zm (ahN rfl rfl rfl) ?_;refine zp ?_;refine zf underlying72 ty4 ?_;refine zs ty4 h fun I h=>?_;refine zf underlying72 ty4 ?_;refine zs ty4 h fun I h=>?_;refine z2 (AW.seq (z3 ?_))
 refine zp ?_;refine zc func57 h ?_;rintro v I ⟨u14,rfl,h⟩;iterate 2 refine zp ?_
 refine qq 4 (!(decide (u14=0))) (qt decide_eq_true_iff) h (fun fr I=> ∃(u15:Bool),qk [(4,.pointer u0),(6,Sl.v u6),(7,.pointer (some ⟨u12,0,none⟩)),(8,.int .i64 u13),(15,.int .i64 u1),(16,.int .i64 u7),(45,.bool u15)] fr/\kY B ro u6 u12 u0 u1 u7 u13 Q Y9 u15 I) ?_ ?_ ?_
 .intro h e3 hk3;iterate 3 refine zn e3 ?_
  refine zk e3 ?_;exact hk3 _ _ ⟨_,FL,h⟩
 .intro h e3 hk3;refine qr (qx rfl underlying72 rfl ty3 (by decide) rfl) rfl rfl rfl rfl e3 ?_
  obtain⟨u16,hc,h⟩:=h
  refine Lyb rfl rfl rfl rfl e3 (qM rfl underlying3 rfl rfl hc ?_)
  refine zy e3 ?_;refine zk e3 ?_;exact hk3 _ _ ⟨_,FL,h⟩
 rintro fr I ⟨u15,hl,h⟩;unfold kY at h;refine Lfr hl ?_
 refine zp ?_;refine qq 4 u15 Iff.rfl h (fun fr I=> ∃(u17:Bool),qk [(4,.pointer u0),(6,Sl.v u6),(7,.pointer (some ⟨u12,0,none⟩)),(8,.int .i64 u13),(15,.int .i64 u1),(16,.int .i64 u7),(50,.bool u17)] fr/\kX B ro u6 u12 u0 u1 u7 u13 Q Y9 u17 I) ?_ ?_ ?_
 .intro h e8 hk8;iterate 3 refine zn e8 ?_
  refine zk e8 ?_;exact hk8 _ _ ⟨_,FL,h⟩
 .intro h e8 hk8;refine qr (qx rfl underlying72 rfl ty3 (by decide) rfl) rfl rfl rfl rfl e8 ?_
  obtain⟨u18,hc,h⟩:=h
  refine Lyb rfl rfl rfl rfl e8 (qM rfl underlying3 rfl rfl hc ?_)
  refine zy e8 ?_;refine zk e8 ?_;exact hk8 _ _ ⟨_,FL,h⟩
 rintro fr I ⟨u17,hl,h⟩;unfold kX at h;refine Lfr hl ?_
 refine zp ?_;refine qX 3 u17 [(4,.pointer u0),(6,Sl.v u6),(7,.pointer (some ⟨u12,0,none⟩)),(15,.int .i64 u1),(16,.int .i64 u7),(54,.bool (u17 || (decide (3<u13))))] ?_ ?_ ?_
 .intro e13 hk13
  iterate 2 refine zn e13 ?_
  refine zk e13 ?_;exact hk13 _ (Fe e13)
 .intro e13 hk13
  refine zy e13 ?_;refine zy e13 ?_;refine zk e13 ?_;exact hk13 _ (Fe e13)
 intro fr hl
 refine Lfr hl ?_
 refine z2 ?_;refine AW.iff rfl (wt Iff.rfl decide_eq_true_iff) h (fun h=>?_) (fun h=>?_)
 .refine z3 ?_;iterate 2 refine zp ?_
  refine z2 ?_;refine AW.ret ?_;refine qi (qQ (qi (qi (qQ (qi ?_)))));exact bR2 results94 rfl rfl ⟨_,_,rfl,h⟩
 refine AW.skip ?_;refine qc (AW.reg ?_);refine zp ?_;obtain⟨u19,u20,u21,u22,u23,u24,hc,h⟩:=h
 refine zl (jb rfl underlying72 rfl je rfl hc ?_)
 refine zA (wI (vs:=[(0,.agg #[.int .i64 u19,.string u20,Sl.v u21,.int .i64 u22,.bool u23,.bool u24])]) (cs:= #[.int .i64 u19,.string u20,Sl.v u21,.int .i64 u22,.bool u23,.bool u24]) rfl underlying54 je (by decide) rfl rfl) h fun u25 h=>?_;refine zl (jz (s:=Builtin.append_ #[54,54] 54 #[Sl.v u6,Sl.v (⟨some ⟨u25,0,none⟩,1,1⟩:Sl)]) rfl rfl (fun _=>rfl) (qv _ h ?_))
 rintro v I ⟨u26,rfl,h⟩;refine zp ?_;refine pT (wq (qc (AW.reg ?_)));iterate 2 refine zp ?_
 refine z2 ?_;refine qn.head (fr':=[(4,.pointer u0),(15,.int .i64 u1),(6,Sl.v u26),(16,.int .i64 (i64.wrap (u7+1)))]) ?_ FL
 exact hY9 _ _ h
def jZ(B:World)(ro:AH)(Q:Int->AH->Prop)(u0:Int)(I:AH):=
 Q u0 I
def yb(B:World)(ro:AH)(u0:Nat)(Q:Int->AH->Prop)(u1:Int)(I:AH):=
 ∃u2,qa ro I ((⟨u0,0,none⟩:Addr).add 5)=some (.bool u2)/\
 if u2=true then
 jZ B ro Q (kx .i64 u1 2) I
 else
 jZ B ro Q u1 I
def aa8(B:World)(ro:AH)(a0_0:Int)(a0_1:ByteArray)(a0_2:Sl)(a0_3:Int)(a0_4 a0_5:Bool)(I:AH)(Q:Int->AH->Prop):=
 nw ro I (.cells #[.int .i64 a0_0,.string a0_1,Sl.v a0_2,.int .i64 a0_3,.bool a0_4,.bool a0_5] 72) fun u0 I=>
 ∃u1,qa ro I ((⟨u0,0,none⟩:Addr).add 4)=some (.bool u1)/\
 if u1=true then
 yb B ro u0 Q (kx .i64 0 1) I
 else
 yb B ro u0 Q 0 I
theorem afo{a0_0:Int}{a0_1:ByteArray}{a0_2:Sl}{a0_3:Int}{a0_4 a0_5:Bool}{Q:Int->AH->Prop}(h:Sep ro I->aa8 B ro a0_0 a0_1 a0_2 a0_3 a0_4 a0_5 I Q):aa0 B ro a0_0 a0_1 a0_2 a0_3 a0_4 a0_5 I Q:=by
 refine zb h func142 ntmps142 fun h=>?_;unfold aa8 at h;refine z3 ?_;refine zA (vq rfl rfl) h fun u0 h=>?_;refine zp ?_;refine z4 ?_;refine zp ?_;refine z2 ?_;refine AW.seqJ (fun fr I=> ∃(u1:Int),qk [(1,.pointer (some ⟨u0,0,none⟩)),(3,.int .i64 u1)] fr/\yb B ro u0 Q u1 I) ?_ ?_
 rotate_left
 .refine z3 ?_;refine zf underlying72 ty4 ?_;refine zL underlying4 h fun u2 h=>?_;refine z2 ?_;refine zj h (fun h=>?_) fun h=>?_
  rotate_left
  .refine AW.skip ?_;refine qc ?_;exact⟨_,FL,h⟩
  refine AW.reg ?_;refine zp ?_;refine zm (ahO rfl rfl rfl) ?_;refine zp ?_;refine z2 ?_;exact⟨_,FL,h⟩
 rintro fr I ⟨u1,hl,h⟩;refine AW.weaken ?_ hl (HLe.refl _)
 unfold yb at h;refine AW.seqJ (fun fr I=> ∃(u3:Int),qk [(3,.int .i64 u3)] fr/\jZ B ro Q u3 I) ?_ ?_
 .rintro fr I ⟨u3,hl,h⟩;refine AW.weaken ?_ hl (HLe.refl _)
  unfold jZ at h;refine z3 ?_;iterate 2 refine zp ?_
  refine z2 ?_;refine AW.ret ?_;exact bR1 results142 rfl ⟨_,rfl,h⟩
 refine z3 ?_;refine zf underlying72 ty4 ?_;refine zL underlying4 h fun u4 h=>?_;refine z2 ?_;refine zj h (fun h=>?_) fun h=>?_
 rotate_left
 .refine AW.skip ?_;refine qc ?_;exact⟨_,FL,h⟩
 refine AW.reg ?_;refine zp ?_;refine zm (ahO rfl rfl rfl) ?_;refine zp ?_;refine z2 ?_;exact⟨_,FL,h⟩
end G
namespace Zt
open Go SL G Pa
variable{B:World}{ro I I':AH}{tag tag':Nat->Nat}
theorem wj.keepS{C:List Nat}{r:Nat}{e:TypeId}{w:Nat}{s:Sl}{l:List (List Value)}(h:wj tag I r e w s l)(k:qd C ro tag I tag' I')(hr:r%64∉C:=by decide):wj tag' I' r e w s l:=by
 obtain⟨R,h1,h2⟩:=k
 exact h.keep h2 fun m=>hr (h1 _ m)
theorem Row.cellsAt{r:Nat}{e:TypeId}{b n c:Nat}{l:List Value}(h:Row tag I r e ⟨some ⟨b,0,none⟩,n,c⟩ l)(hs:SL.Sep ro I):SL.qj ro I ⟨b,0,none⟩ 0 l:=by
 rcases Nat.eq_zero_or_pos l.length with h0 | h0
 .rw[List.eq_nil_of_length_eq_zero h0];trivial
 .obtain⟨p,hp,hg⟩:=h.ptr hs h0
  cases hp
  exact wr 0 fun i v hv=>by rw[Nat.zero_add];have:=hg i v hv;rwa [Nat.mul_one]at this
theorem Row.readW1{r w:Nat}{e:TypeId}{b n c:Nat}{l:List Value}(h:Row tag I r e ⟨some ⟨b,0,none⟩,n,c⟩ l)(hs:SL.Sep ro I)(hw:l.length=w)(h0:0<w):SL.pQ ro I w ⟨some ⟨b,0,none⟩,1,1⟩ [l]:=by
 obtain⟨p,hp,hg⟩:=h.ptr hs (by omega)
 cases hp
 refine⟨rfl,(fun h=>by cases h),fun x hx=>by rw[List.mem_singleton.1 hx];exact hw,fun p hp i v hv=>?_⟩
 cases hp
 have:=hg i v (by simpa using hv)
 rwa [Nat.mul_one]at this
end Zt
namespace SL
open Go
variable{P:Program}{B:World}{ro I I':AH}{tag tag':Nat->Nat}{L:List Nat}
def vg(tag:Nat->Nat)(I:AH)(q:Nat)(s:Sl)(l:List Value):Prop:=
 s.len=l.length/\((s.a=none/\l=[])\/∃ p o,s.a=some p/\tag p.block=q/\I p.block=some o/\∀ i v,l[i]?=some v->wM (p.add i) (some o)=some v)
theorem vg.nil(q:Nat):vg tag I q ⟨none,0,0⟩ []:=⟨rfl,.inl ⟨rfl,rfl⟩⟩
theorem aiI(p:Addr)(i:Nat):(p.add i).block=p.block:=by
 cases i with
 | zero=>rfl
 | succ i=>rfl
theorem vg.keep{R:List Nat}{q:Nat}{s:Sl}{l:List Value}(h:vg tag I q s l)(k:qf R ro tag I tag' I')(hq:q∉R:=by simp):vg tag' I' q s l:=by
 obtain⟨h1,h2 | ⟨p,o,h2,h3,h4,h5⟩⟩:=h
 .exact⟨h1,.inl h2⟩
 .obtain⟨e1,e2⟩:=k.keep _ _ h4 (by rw[h3];exact hq)
  exact⟨h1,.inr ⟨p,o,h2,e1.trans h3,e2,h5⟩⟩
theorem vg.keepS{C:List Nat}{q:Nat}{s:Sl}{l:List Value}(h:vg tag I q s l)(k:qd C ro tag I tag' I')(hq:q%64∉C:=by decide):vg tag' I' q s l:=by
 obtain⟨R,h1,h2⟩:=k
 exact h.keep h2 fun m=>hq (h1 _ m)
theorem vg.read{q:Nat}{s:Sl}{l:List Value}(h:vg tag I q s l)(hs:Sep ro I):qy ro I s l:=by
 obtain⟨h1,h2 | ⟨p,o,h2,h3,h4,h5⟩⟩:=h
 .exact⟨h1,fun _=>h2.2,fun p hp=>by rw[h2.1]at hp;cases hp⟩
 .refine⟨h1,(fun e=>by rw[h2]at e;cases e),fun p' hp' i v hv=>?_⟩
  rw[h2]at hp';cases hp'
  unfold qa rd
  rw[aiI,hs _ _ h4,h4]
  exact h5 i v hv
theorem Row.held{r:Nat}{e:TypeId}{s:Sl}{l:List Value}(h:Row tag I r e s l):vg tag I r s l:=by
 rcases h with⟨rfl,rfl⟩ | ⟨b,cs,ha,ht,hb,hln,hc,hle,hg⟩
 .exact vg.nil r
 .refine⟨hln,.inr ⟨_,_,ha,ht,hb,fun i v hv=>?_⟩⟩
  have hi:i<l.length:=by
   rcases Nat.lt_or_ge i l.length with h | h
   .exact h
   .rw[List.getElem?_eq_none h]at hv;cases hv
  rw[wN,Nat.zero_add]
  simp only[wM]
  rw[<-hv,<-hg i hi];rfl
theorem vg.outR{q:Nat}{s:Sl}{l:List Value}(h:vg tag I q s l)(hq:q∉L):vg tag (SL.vt tag L I) q s l:=by
 obtain⟨h1,h2 | ⟨p,o,h2,h3,h4,h5⟩⟩:=h
 .exact⟨h1,.inl h2⟩
 .exact⟨h1,.inr ⟨p,o,h2,h3,by unfold SL.vt;rw[if_neg (by rw[h3];exact hq)];exact h4,h5⟩⟩
theorem vg.backR{tag1:Nat->Nat}{τ:AH}{q:Nat}{s:Sl}{l:List Value}(h:vg tag1 τ q s l)(hd:qz (inR tag L I) τ):vg (tagB tag tag1 L I) (join (inR tag L I) τ) q s l:=by
 obtain⟨h1,h2 | ⟨p,o,h2,h3,h4,h5⟩⟩:=h
 .exact⟨h1,.inl h2⟩
 .have hn:inR tag L I p.block=none:=by
   cases e:inR tag L I p.block with
   | none=>rfl
   | some o=>have:=hd _ o e;rw[h4]at this;cases this
  exact⟨h1,.inr ⟨p,o,h2,by rw[abA hn];exact h3,by unfold join;rw[hn];exact h4,h5⟩⟩
theorem vg.del{q b:Nat}{s:Sl}{l:List Value}(h:vg tag I q s l)(hb:tag b≠q):vg tag (SL.del I b) q s l:=by
 obtain⟨h1,h2 | ⟨p,o,h2,h3,h4,h5⟩⟩:=h
 .exact⟨h1,.inl h2⟩
 .exact⟨h1,.inr ⟨p,o,h2,h3,by unfold SL.del;rw[if_neg (fun e=>hb (by rw[<-e];exact h3))];exact h4,h5⟩⟩
theorem afF{U:AH}{s:Sl}{l:List Value}(h:qy ro (fun _=>none) s l):qy (join ro U) (fun _=>none) s l:=by
 refine⟨h.1,h.2.1,fun p hp i v hv=>?_⟩
 have:=h.2.2 p hp i v hv
 unfold qa rd at this⊢
 cases hr:ro (p.add i).block with
 | none=>rw[hr]at this;simp[wM]at this
 | some o=>rw[hr]at this;unfold join;rw[hr];exact this
end SL
namespace Zt
open Go SL G Pa
variable{B:World}{ro I I':AH}{tag tag':Nat->Nat}
def opV(o:MOp)(d:Sl):List Value:=[vI o.kind,Pa.vS o.path,Sl.v d,vI o.ver,.bool o.eph,.bool o.seq]
def adH(dr tag:Nat->Nat)(I:AH)(q:Nat)(s:Sl)(ops:List MOp):Prop:=
 ∃ds:List Sl,ds.length=ops.length/\wj tag I q 72 6 s (List.zipWith opV ops ds)/\∀ (i:Nat) (o:MOp) (d:Sl),ops[i]?=some o->ds[i]?=some d->vg tag I (dr i) d (o.data.map vU)
abbrev wW(tag:Nat->Nat)(I:AH)(q:Nat)(s:Sl)(ops:List MOp):Prop:=adH (fun _=>6) tag I q s ops
theorem adH.keepS{dr:Nat->Nat}{C:List Nat}{q:Nat}{s:Sl}{ops:List MOp}(h:adH dr tag I q s ops)(k:qd C ro tag I tag' I')(hq:q%64∉C:=by decide)(h6:∀ i,dr i%64∉C:=by decide):adH dr tag' I' q s ops:=by
 obtain⟨ds,h1,h2,h3⟩:=h
 exact⟨ds,h1,wj.keepS h2 k hq,fun i o d ho hd=>(h3 i o d ho hd).keepS k (h6 i)⟩
theorem wW.keepS{C:List Nat}{q:Nat}{s:Sl}{ops:List MOp}(h:wW tag I q s ops)(k:qd C ro tag I tag' I')(hq:q%64∉C:=by decide)(h6:6∉C:=by decide):wW tag' I' q s ops:=adH.keepS h k hq fun _=>h6
theorem afG{r:Nat}{e:TypeId}{b n c:Nat}{l vs:List Value}{K:AH->Prop}(h:Row tag I r e ⟨some ⟨b,0,none⟩,n,c⟩ l)(hs:SL.Sep ro I)(hl:vs.length=l.length)(hv:∀ v∈vs,qg v=true)
  (hK:∀ I',qf [r] ro tag I tag I'->Row tag I' r e ⟨some ⟨b,0,none⟩,n,c⟩ vs->SL.qj ro I' ⟨b,0,none⟩ 0 vs->K I'):stN ⟨b,0,none⟩ K vs 0 I:=
 h.stAll hs hl hv fun I' st r'=>hK I' st r' (Row.cellsAt r' st.sep)
def acl(ro:AH)(s:Sl)(ops:List MOp):Prop:=s.len=ops.length/\∀ j o,ops[j]?=some o->∃ q ds,s.a=some q/\(∀I,SL.qj ro I (q.add (j*6)) 0 (opV o ds))/\SL.qy ro (fun _=>none) ds (o.data.map vU)/\o.data.length<=140737488351232
def alW(ro I:AH)(s:Sl)(ops:List MOp):Prop:=s.len=ops.length/\∀ j o,ops[j]?=some o->∃ q ds,s.a=some q/\SL.qj ro I (q.add (j*6)) 0 (opV o ds)/\SL.qy ro (fun _=>none) ds (o.data.map vU)/\o.data.length<=140737488351232
theorem acl.m{s:Sl}{ops:List MOp}(h:acl ro s ops)(I:AH):alW ro I s ops:=⟨h.1,fun j o ho=>by
 obtain⟨q,ds,h1,h2,h3,h4⟩:=h.2 j o ho
 exact⟨q,ds,h1,h2 I,h3,h4⟩⟩
theorem ag1{tag1:Nat->Nat}{I1:AH}(st:∀ R,qf R ro (fun _=>7) I tag1 I1)(tag:Nat->Nat)(q:Nat):
  ∃tag',(∀R,qf R ro tag I tag' I1)/\∀ e s l,Row tag1 I1 6 e s l->Row tag' I1 q e s l:=by
 refine⟨fun c=>if(I c).isSome then tag c else q,fun R=>⟨fun b o hb _=>⟨by simp[hb],((st []).keep b o hb (by simp)).2⟩,fun b o hb=>⟨by simp[hb],o,((st []).keep b o hb (by simp)).2⟩,(st []).sep⟩,fun e s l h=>?_⟩
 rcases h with h | ⟨b,cs,ha,ht,hb,hx'⟩
 .exact .inl h
 .refine .inr ⟨b,cs,ha,?_,hb,hx'⟩
  cases e:I b with
  | none=>simp[e]
  | some o=>
   have:=((st []).old b o e).1
   rw[ht]at this;cases this
theorem ajn(q:Nat){s:Sl}{l:List Value}{Q:Sl->AH->Prop}(h:SL.qy ro I s l)(hs:SL.Sep ro I)(hl:l.length<=140737488355328)(hv:∀ v∈l,qg v=true)(hQ:∀ s' tag' I',(∀R,qf R ro tag I tag' I')->Row tag' I' q 5 s' l->Q s' I'):jU B ro s I Q:=
 copy_ok (tag:=fun _=>7) h hs hl hv fun s' tag1 I1 st r=>by
  obtain⟨tg,k1,k2⟩:=ag1 st tag q
  exact hQ s' tg I1 k1 (k2 _ _ _ r)
end Zt
namespace SL
open Go
variable{ro I I':AH}{tag tag':Nat->Nat}
theorem ac4{U τ:AH}{a:Addr}{v:Value}(h:qa ro (fun _=>none) a=some v):qa (join ro U) τ a=some v:=by
 unfold qa rd at h⊢
 cases e:ro a.block with
 | none=>rw[e]at h;simp[wM]at h
 | some o=>rw[e]at h;rw[zD e];exact h
theorem aeW{U τ:AH}{a:Addr}:∀ {l:List Value} {i:Nat},qj ro (fun _=>none) a i l->qj (join ro U) τ a i l
 | [],_,_=>trivial
 | _::_,_,h=>⟨ac4 h.1,aeW h.2⟩
theorem qy.ro'{U:AH}{s:Sl}{l:List Value}(h:qy ro (fun _=>none) s l):qy (join ro U) (fun _=>none) s l:=
 ⟨h.1,h.2.1,fun p hp i v hv=>ac4 (h.2.2 p hp i v hv)⟩
end SL
namespace Zt
open Go SL G Pa
variable{B:World}{ro I I':AH}{tag tag':Nat->Nat}
theorem acl.ro'{U:AH}{s:Sl}{ops:List MOp}(h:acl ro s ops):acl (join ro U) s ops:=by
 refine⟨h.1,fun j o ho=>?_⟩
 obtain⟨q,ds,h1,h2,h3,h4⟩:=h.2 j o ho
 exact⟨q,ds,h1,fun I=>aeW (h2 _),h3.ro',h4⟩