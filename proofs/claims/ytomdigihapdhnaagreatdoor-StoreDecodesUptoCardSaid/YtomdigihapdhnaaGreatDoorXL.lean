import Derived.Test.YtomdigihapdhnaaGreatDoorXK
set_option linter.all false
set_option maxRecDepth 99999
set_option maxHeartbeats 0
open Go.IntKind(i64)
open Go.Proofs.Tryz
namespace Go.Proofs.YtomdigihapdhnaaGreatDoor
namespace G
open Go SL
variable{B:World}{ro I:AH}
def acu(B:World)(ro I:AH)(Q:Option Addr->AH->Prop):Prop:=
 nw ro I (.map #[] 0) fun u0 I=>
 nw ro I (.cells #[.map (some u0)] 242) fun u1 I=>
 Q (some ⟨u1,0,none⟩) I
theorem agr{Q}(h:Sep ro I->acu B ro I Q):aei B ro I Q:=by
 refine zb h func67 ntmps67 fun h=>?_;unfold acu at h;refine zw ?_;refine zA (ad3 rfl) h fun u0 h=>?_;refine zm (wD (vs:=[(0,.map (some u0))]) (cs:= #[.map (some u0)]) rfl Lv as2 as9 rfl rfl) ?_;refine zA (wY rfl rfl) h fun u1 h=>?_;exact zr h
def jU(B:World)(ro:AH)(Q:Sl->AH->Prop)(u0:Sl)(I:AH):=
 Q u0 I
def xc(B:World)(ro:AH)(a0:Option Addr)(a1 u0:Sl)(u1:Int)(Q:Sl->AH->Prop)(Y4:(Sl×Int)->AH->Prop)(u2:Sl)(I:AH):=
 Y4 (u2,i64.wrap (u1+1)) I
def vh(B:World)(ro:AH)(a0:Option Addr)(a1 u0:Sl)(u1:Int)(u2:ByteArray)(u3:Sl)(Q:Sl->AH->Prop)(Y4:(Sl×Int)->AH->Prop):(Sl×Int)->AH->((Sl×Int)->AH->Prop)->Prop:=fun⟨u4,u5⟩ I Y17=>
 if u5<(u3.len:Int)then
 ∃p6,u3.a=some p6/\(0:Int)<=u5/\u5<(u3.len:Int)/\
 ∃u7,qb ro I (p6.add (Int.toNat u5*1))=some (.int .i64 u7)/\
 nw ro I (.cells #[.string u2,.int .i64 u7] 81) fun u8 I=>
 awp prog ro (Builtin.append_ #[178,178] 178 #[Sl.v u4,Sl.v (⟨some ⟨u8,0,none⟩,1,1⟩:Sl)]) (fun v I=> ∃(u9:Sl),v=Sl.v u9/\
  Y17 (u9,i64.wrap (u5+1)) I) I
 else
 xc B ro a0 a1 u0 u1 Q Y4 u4 I
def kE(B:World)(ro:AH)(a0:Option Addr)(a1 u0 u1:Sl)(u2:Int)(u3:ByteArray)(Q:Sl->AH->Prop)(Y4:(Sl×Int)->AH->Prop)(u4:Bool)(I:AH):=
 if u4=true then
 xc B ro a0 a1 u1 u2 Q Y4 u0 I
 else
 ∃p5,a0=some p5/\
 ∃u6,qb ro I p5=some (.map u6)/\
 awp prog ro (Instr.lookup 240 (.map u6) (.string u3) false) (fun v I=>
 (∃(u7:Option Addr),v= .pointer u7/\
  jd B ro u7 I fun u8 I=>
  lfpD (vh B ro a0 a1 u1 u2 u3 u8 Q Y4) (u0,0) I)) I
def vB(B:World)(ro:AH)(a0:Option Addr)(a1 u0:Sl)(Q:Sl->AH->Prop):(Sl×Int)->AH->((Sl×Int)->AH->Prop)->Prop:=fun⟨u1,u2⟩ I Y4=>
 if u2<(u0.len:Int)then
 ∃p3,u0.a=some p3/\(0:Int)<=u2/\u2<(u0.len:Int)/\
 ∃u4,qb ro I (p3.add (Int.toNat u2*1))=some (.string u4)/\
 if 0<(a1.len:Int)then
  acP B ro a1 u4 I fun u5 I=>
  kE B ro a0 a1 u1 u0 u2 u4 Q Y4 (!u5) I
 else
 kE B ro a0 a1 u1 u0 u2 u4 Q Y4 false I
 else
 jU B ro Q u1 I
def aar(B:World)(ro:AH)(a0:Option Addr)(a1:Sl)(I:AH)(Q:Sl->AH->Prop):=
 jP B ro a0 I fun u0 I=>
 lfpD (vB B ro a0 a1 u0 Q) ((⟨none,0,0⟩:Sl),0) I
theorem ags{a0 a1 Q}(h:Sep ro I->aar B ro a0 a1 I Q):aaa B ro a0 a1 I Q:=by
 refine zb h func88 ntmps88 fun h=>?_;unfold aar at h;refine zw ?_;refine AW.seqJ (fun fr I=> ∃(u0:Sl),qg [(5,Sl.v u0)] fr/\jU B ro Q u0 I) ?_ ?_
 .rintro fr I ⟨u0,hl,h⟩;refine AW.weaken ?_ hl (HLe.refl _)
  unfold jU at h;exact zr h
 refine zc func139 h ?_;rintro v I ⟨u1,rfl,h⟩;refine zm (qD rfl rfl mP rfl rfl) ?_;refine zw ?_;refine qf.loop (fr':=[(0,.pointer a0),(1,Sl.v a1),(11,Sl.v u1),(12,.int .i64 (u1.len:Int)),(5,Sl.v (⟨none,0,0⟩:Sl)),(13,.int .i64 0)]) ?_ FL
 refine h (fun⟨u2,u3⟩ I=>qf _ _ _ _ _ _ [(0,.pointer a0),(1,Sl.v a1),(11,Sl.v u1),(12,.int .i64 (u1.len:Int)),(5,Sl.v u2),(13,.int .i64 u3)] I) ?_
 rintro⟨u2,u3⟩ I Y4 hY4 h
 show AW _ _ _ _ _ _ _ _
 unfold vB at h;dsimp only at h;refine zw ?_;refine AW.seq ?_;refine zi h (fun h=>?_) fun h=>?_
 rotate_left
 .refine AW.exit ?_;refine zw ?_;refine qN ?_
  refine zw ?_;exact⟨_,FL,h⟩
 refine zw ?_;refine AW.seqJ (fun fr I=> ∃(u4:Sl),qg [(0,.pointer a0),(1,Sl.v a1),(11,Sl.v u1),(12,.int .i64 (u1.len:Int)),(13,.int .i64 u3),(5,Sl.v u4)] fr/\xc B ro a0 a1 u1 u3 Q Y4 u4 I) ?_ ?_
 .rintro fr I ⟨u4,hl,h⟩;refine AW.weaken ?_ hl (HLe.refl _)
  unfold xc at h;refine zw ?_;refine qf.head (fr':=[(0,.pointer a0),(1,Sl.v a1),(11,Sl.v u1),(12,.int .i64 (u1.len:Int)),(5,Sl.v u4),(13,.int .i64 (i64.wrap (u3+1)))]) ?_ FL
  exact hY4 _ _ h
 refine zw ?_;obtain⟨p5,ha,h0,h1,h⟩:=h
 refine zm (wR rfl mP ty9 (ixL rfl ha) rfl h0 h1) ?_;refine zLp mu h fun u6 h=>?_;refine AW.seq ?_;refine zw ?_;refine zm (qD rfl rfl mP rfl rfl) ?_;refine zw ?_;refine qn 5 (decide (0<(a1.len:Int))) mg h (fun fr I=> ∃(u7:Bool),qg [(0,.pointer a0),(1,Sl.v a1),(5,Sl.v u2),(7,.string u6),(11,Sl.v u1),(12,.int .i64 (u1.len:Int)),(13,.int .i64 u3),(25,.bool u7)] fr/\kE B ro a0 a1 u2 u1 u3 u6 Q Y4 u7 I) ?_ ?_ ?_
 .intro h e3 hk3;refine zv e3 ?_;refine Lyb rfl rfl rfl rfl e3 (wu rfl func140 rfl rfl rfl (qc.mono h ?_))
  rintro v I ⟨u8,rfl,h⟩;refine zv e3 ?_;exact hk3 _ _ ⟨_,FL,h⟩
 .intro h e3 hk3;refine zv e3 ?_;exact hk3 _ _ ⟨_,FL,h⟩
 rintro fr I ⟨u7,hl,h⟩;unfold kE at h;refine Lfr hl ?_
 refine zj h (fun h=>?_) fun h=>?_
 .refine AW.exit ?_;refine zw ?_;refine qN ?_
  refine zw ?_;exact⟨_,FL,h⟩
 refine zN h fun p9 h=>?_;refine zf Lv afL ?_;refine zLp Lq h fun u10 h=>?_;refine zl (acW rfl rfl rfl (qj _ h ?_))
 rintro v I ⟨u11,rfl,h⟩;refine zc func141 h ?_;rintro v I ⟨u12,rfl,h⟩;refine zm (qD rfl rfl mx rfl rfl) ?_;refine zw ?_;refine qf.loop (fr':=[(0,.pointer a0),(1,Sl.v a1),(7,.string u6),(11,Sl.v u1),(12,.int .i64 (u1.len:Int)),(13,.int .i64 u3),(32,Sl.v u12),(33,.int .i64 (u12.len:Int)),(5,Sl.v u2),(34,.int .i64 0)]) ?_ FL
 refine h (fun⟨u13,u14⟩ I=>qf _ _ _ _ _ _ [(0,.pointer a0),(1,Sl.v a1),(7,.string u6),(11,Sl.v u1),(12,.int .i64 (u1.len:Int)),(13,.int .i64 u3),(32,Sl.v u12),(33,.int .i64 (u12.len:Int)),(5,Sl.v u13),(34,.int .i64 u14)] I) ?_
 rintro⟨u13,u14⟩ I Y17 hY17 h
 show AW _ _ _ _ _ _ _ _
 unfold vh at h;dsimp only at h;refine zw ?_;refine AW.seq ?_;refine zi h (fun h=>?_) fun h=>?_
 rotate_left
 .refine AW.exit ?_;refine zw ?_;refine qN ?_
  refine zw ?_;exact⟨_,FL,h⟩
 refine zw ?_;refine AW.seq ?_;refine zw ?_;obtain⟨p15,ha,h0,h1,h⟩:=h
 refine zm (wR rfl mx ty3 (ixL rfl ha) rfl h0 h1) ?_;refine zLp mj h fun u16 h=>?_;refine zm (wD (vs:=[(0,.string u6),(1,.int .i64 u16)]) (cs:= #[.string u6,.int .i64 u16]) rfl mN zP anV rfl rfl) ?_;refine zA (wS (vs:=[(0,.agg #[.string u6,.int .i64 u16])]) (cs:= #[.string u6,.int .i64 u16]) rfl Le zP z8 rfl rfl) h fun u17 h=>?_
 refine zl (yt (s:=Builtin.append_ #[178,178] 178 #[Sl.v u13,Sl.v (⟨some ⟨u17,0,none⟩,1,1⟩:Sl)]) rfl rfl (fun _=>rfl) (qj _ h ?_))
 rintro v I ⟨u18,rfl,h⟩;refine zw ?_;refine qf.head (fr':=[(0,.pointer a0),(1,Sl.v a1),(7,.string u6),(11,Sl.v u1),(12,.int .i64 (u1.len:Int)),(13,.int .i64 u3),(32,Sl.v u12),(33,.int .i64 (u12.len:Int)),(5,Sl.v u18),(34,.int .i64 (i64.wrap (u14+1)))]) ?_ FL
 exact hY17 _ _ h
def jg(B:World)(ro:AH)(u0:Option Addr)(Q:Sl->AH->Prop)(I:AH):=
 xT B ro u0 I fun u1 u2 I=>
 Q u1 I
def xM(B:World)(ro:AH)(a0 u0:Option Addr)(u1:Sl)(u2:Int)(Q:Sl->AH->Prop)(Y10:Int->AH->Prop)(I:AH):=
 Y10 (i64.wrap (u2+1)) I
def zK(B:World)(ro:AH)(a0 u0:Option Addr)(u1:Sl)(u2:Int)(u3:Option Addr)(u4:Sl)(Q:Sl->AH->Prop)(Y10:Int->AH->Prop):Int->AH->(Int->AH->Prop)->Prop:=fun u5 I Y26=>
 if u5<(u4.len:Int)then
 ∃p6,u4.a=some p6/\(0:Int)<=u5/\u5<(u4.len:Int)/\
 ∃u7,qb ro I (p6.add (Int.toNat u5*1))=some (.int .i64 u7)/\
 ∃p8,u3=some p8/\
 ∃u9,qb ro I (p8.add 1)=some (.map u9)/\
 awp prog ro (Instr.lookup 252 (.map u9) (.int .i64 u7) false) (fun v I=>
  (∃(u10:Option Addr),v= .pointer u10/\
  ∃p11,u10=some p11/\
  ∃p12,u10=some p12/\
  ∃p13,u10=some p13/\
  ∃p14,u10=some p14/\
  ∃p15,u10=some p15/\
  ∃u16,qb ro I (p11.add 1)=some (.int .i64 u16)/\
  ∃u17,qb ro I (p12.add 2)=some (.int .i64 u17)/\
  ∃u18,qb ro I (p13.add 3)=some (.int .i64 u18)/\
  ∃u19,qb ro I (p14.add 4)=some (.int .i64 u19)/\
  ∃u20,qb ro I (p15.add 5)=some (.int .i64 u20)/\
  nw ro I (.cells #[.int .i64 u16,.int .i64 u17,.int .i64 u18,.int .i64 u19,.int .i64 u20] 3) fun u21 I=>
  qX B ro u0 (⟨some ⟨u21,0,none⟩,5,5⟩:Sl) I fun I=>
  ∃p22,u10=some p22/\
  ∃u23,qb ro I (p22.add 6)=some (Sl.v u23)/\
  nw ro I (.cells #[Sl.v u23] 24) fun u24 I=>
  vo B ro u0 (⟨some ⟨u24,0,none⟩,1,1⟩:Sl) I fun I=>
  Y26 (i64.wrap (u5+1)) I)) I
 else
 xM B ro a0 u0 u1 u2 Q Y10 I
def zO(B:World)(ro:AH)(a0 u0:Option Addr)(u1:Sl)(Q:Sl->AH->Prop):Int->AH->(Int->AH->Prop)->Prop:=fun u2 I Y10=>
 if u2<(u1.len:Int)then
 ∃p3,u1.a=some p3/\(0:Int)<=u2/\u2<(u1.len:Int)/\
 ∃u4,qb ro I (p3.add (Int.toNat u2*1))=some (.string u4)/\
 ∃p5,a0=some p5/\
 ∃u6,qb ro I p5=some (.map u6)/\
 awp prog ro (Instr.lookup 240 (.map u6) (.string u4) false) (fun v I=>
  (∃(u7:Option Addr),v= .pointer u7/\
  nw ro I (.cells #[.string u4] 9) fun u8 I=>
  zE B ro u0 (⟨some ⟨u8,0,none⟩,1,1⟩:Sl) I fun I=>
  uS I fun ψ I=>
   ∃p9,u7=some p9/\
   ∃u10,qb (join ro ψ) (fun _=>none) p9=some (.int .i64 u10)/\
   ∃p11,u7=some p11/\
   ∃u12,qb (join ro ψ) I (p11.add 1)=some (.map u12)/\
   awp prog (join ro ψ) (Builtin.len_ #[252] 3 #[.map u12]) (fun v I=> ∃(u13:Int),v= .int .i64 u13/\
   nw (join ro ψ) I (.cells #[.int .i64 u10,.int .i64 u13] 3) fun u14 I=>
   qX B (join ro ψ) u0 (⟨some ⟨u14,0,none⟩,2,2⟩:Sl) I fun I=>
   (qI ψ I->(fun I=>
    jd B ro u7 I fun u15 I=>
    lfpD (zK B ro a0 u0 u1 u2 u7 u15 Q Y10) (0) I) (join ψ I))) I)) I
 else
 jg B ro u0 Q I
def ug(B:World)(ro:AH)(a0:Option Addr)(I:AH)(Q:Sl->AH->Prop):=
 jl B ro I fun u0 I=>
 ∃p1,a0=some p1/\
 ∃u2,qb ro I p1=some (.map u2)/\
 awp prog ro (Builtin.len_ #[240] 3 #[.map u2]) (fun v I=> ∃(u3:Int),v= .int .i64 u3/\
 nw ro I (.cells #[.int .i64 u3] 3) fun u4 I=>
 qX B ro u0 (⟨some ⟨u4,0,none⟩,1,1⟩:Sl) I fun I=>
 jP B ro a0 I fun u5 I=>
 lfpD (zO B ro a0 u0 u5 Q) (0) I) I
theorem afF{a0 Q}(h:Sep ro I->ug B ro a0 I Q):ua B ro a0 I Q:=by
 refine zb h func106 ntmps106 fun h=>?_;unfold ug at h;refine zc func43 h ?_;rintro v I ⟨u0,rfl,h⟩;refine zN h fun p1 h=>?_;refine zf Lv afL ?_;refine zL Lq h fun u2 h=>?_;refine zl (yt (s:=Builtin.len_ #[240] 3 #[.map u2]) rfl rfl (fun _=>rfl) (qj _ h ?_))
 rintro v I ⟨u3,rfl,h⟩;refine zA (wS (vs:=[(0,.int .i64 u3)]) (cs:= #[.int .i64 u3]) rfl mx ty3 z8 rfl rfl) h fun u4 h=>?_;refine zc func44 h ?_;rintro v I ⟨rfl,h⟩;refine zw ?_;refine AW.seqJ (fun fr I=>qg [(3,.pointer u0)] fr/\jg B ro u0 Q I) ?_ ?_
 .rintro fr I ⟨hl,h⟩;refine AW.weaken ?_ hl (HLe.refl _)
  unfold jg at h;refine zc func47 h ?_;rintro v I ⟨u5,u6,rfl,h⟩;exact zr h
 refine zc func139 h ?_;rintro v I ⟨u7,rfl,h⟩;refine zm (qD rfl rfl mP rfl rfl) ?_;refine zw ?_;refine qf.loop (fr':=[(0,.pointer a0),(3,.pointer u0),(22,Sl.v u7),(23,.int .i64 (u7.len:Int)),(24,.int .i64 0)]) ?_ FL
 refine h (fun u8 I=>qf _ _ _ _ _ _ [(0,.pointer a0),(3,.pointer u0),(22,Sl.v u7),(23,.int .i64 (u7.len:Int)),(24,.int .i64 u8)] I) ?_
 rintro u8 I Y10 hY10 h
 show AW _ _ _ _ _ _ _ _
 unfold zO at h;refine zw ?_;refine AW.seq ?_;refine zi h (fun h=>?_) fun h=>?_
 rotate_left
 .refine AW.exit ?_;refine zw ?_;refine qN ?_
  refine zw ?_;exact⟨FL,h⟩
 refine zw ?_;refine AW.seqJ (fun fr I=>qg [(0,.pointer a0),(3,.pointer u0),(22,Sl.v u7),(23,.int .i64 (u7.len:Int)),(24,.int .i64 u8)] fr/\xM B ro a0 u0 u7 u8 Q Y10 I) ?_ ?_
 .rintro fr I ⟨hl,h⟩;refine AW.weaken ?_ hl (HLe.refl _)
  unfold xM at h;refine zw ?_;refine qf.head (fr':=[(0,.pointer a0),(3,.pointer u0),(22,Sl.v u7),(23,.int .i64 (u7.len:Int)),(24,.int .i64 (i64.wrap (u8+1)))]) ?_ FL
  exact hY10 _ _ h
 refine zw ?_;obtain⟨p9,ha,h0,h1,h⟩:=h
 refine zm (wR rfl mP ty9 (ixL rfl ha) rfl h0 h1) ?_;refine zL mu h fun u10 h=>?_;refine zN h fun p11 h=>?_;refine zf Lv afL ?_;refine zLp Lq h fun u12 h=>?_;refine zl (acW rfl rfl rfl (qj _ h ?_))
 rintro v I ⟨u13,rfl,h⟩;refine zw ?_;refine zA (wS (vs:=[(0,.string u10)]) (cs:= #[.string u10]) rfl mP ty9 z8 rfl rfl) h fun u14 h=>?_;refine zc func45 h ?_;rintro v I ⟨rfl,h⟩;refine zw ?_;refine AW.seq ?_;refine AW.drawnL (fun i=>([0,0,0,0,0,0,0,0,3,2,1,2]:List Nat).getD i 2) [(8,9),(8,10),(8,11)] [0,1,2,3,4,5,6,7,8,9,10,11] mixed h j0 ?_
 clear h
 intro ψ I h
 refine zM h fun p15 h=>?_;refine zg nB ty3 ?_;refine zS mj h fun u16 h=>?_;refine zM h fun p17 h=>?_;refine zg nB afM ?_;refine zR Lw h fun u18 h=>?_;refine Dg rfl rfl rfl rfl (yt (s:=Builtin.len_ #[252] 3 #[.map u18]) rfl rfl (fun _=>rfl) (qj _ h ?_))
 rintro v I ⟨u19,rfl,h⟩;refine Da rfl rfl rfl rfl (wS (vs:=[(0,.int .i64 u16),(1,.int .i64 u19)]) (cs:= #[.int .i64 u16,.int .i64 u19]) rfl mx ty3 z8 rfl rfl) fun u20 g1 g2=>?_
 replace h:=h u20 g1 g2
 refine zG func44 h ?_;rintro v I ⟨rfl,h⟩;refine⟨_,zz.refl _,fun hdj=>?_⟩
 replace h:=h hdj
 refine zc func141 h ?_;rintro v I ⟨u21,rfl,h⟩;refine zm (qD rfl rfl mx rfl rfl) ?_;refine zw ?_;refine qf.loop (fr':=[(0,.pointer a0),(3,.pointer u0),(6,.pointer u13),(22,Sl.v u7),(23,.int .i64 (u7.len:Int)),(24,.int .i64 u8),(51,Sl.v u21),(52,.int .i64 (u21.len:Int)),(53,.int .i64 0)]) ?_ FL
 refine h (fun u22 I=>qf _ _ _ _ _ _ [(0,.pointer a0),(3,.pointer u0),(6,.pointer u13),(22,Sl.v u7),(23,.int .i64 (u7.len:Int)),(24,.int .i64 u8),(51,Sl.v u21),(52,.int .i64 (u21.len:Int)),(53,.int .i64 u22)] I) ?_
 rintro u22 I Y26 hY26 h
 show AW _ _ _ _ _ _ _ _
 unfold zK at h;refine zw ?_;refine AW.seq ?_;refine zi h (fun h=>?_) fun h=>?_
 rotate_left
 .refine AW.exit ?_;refine zw ?_;refine qN ?_
  refine zw ?_;exact⟨FL,h⟩
 refine zw ?_;refine AW.seq ?_;refine zw ?_;obtain⟨p23,ha,h0,h1,h⟩:=h
 refine zm (wR rfl mx ty3 (ixL rfl ha) rfl h0 h1) ?_;refine zL mj h fun u24 h=>?_;refine zN h fun p25 h=>?_;refine zf nB afM ?_;refine zLp Lw h fun u26 h=>?_;refine zl (acW rfl rfl rfl (qj _ h ?_))
 rintro v I ⟨u27,rfl,h⟩;refine zw ?_;refine AW.seq ?_;refine AW.drawn0 (fun i=>([0,0,0,0,0,3,0,0,0,3,0,0,0,3,0,0,0,3,0,0,0,3,1,2]:List Nat).getD i 2) [(5,22),(5,23),(9,22),(9,23),(13,22),(13,23),(17,22),(17,23),(21,22),(21,23)] [0,1,2,3,4,6,7,8,10,11,12,14,15,16,18,19,20,5,9,13,17,21,22,23] mixed j0 ?_
 refine zM h fun p28 h=>?_;refine zg nm zP ?_;refine zg mN ty3 ?_;refine zM h fun p29 h=>?_;refine zg nm ty3 ?_;refine zM h fun p30 h=>?_;refine zg nm ty3 ?_;refine zM h fun p31 h=>?_;refine zg nm ty3 ?_;refine zM h fun p32 h=>?_;refine zg nm ty3 ?_;refine zR mj h fun u33 h=>?_;refine zR mj h fun u34 h=>?_
 refine zR mj h fun u35 h=>?_;refine zR mj h fun u36 h=>?_;refine zR mj h fun u37 h=>?_;refine Da rfl rfl rfl rfl (wS (vs:=[(0,.int .i64 u33),(1,.int .i64 u34),(2,.int .i64 u35),(3,.int .i64 u36),(4,.int .i64 u37)]) (cs:= #[.int .i64 u33,.int .i64 u34,.int .i64 u35,.int .i64 u36,.int .i64 u37]) rfl mx ty3 z8 rfl rfl) fun u38 g1 g2=>?_
 replace h:=h u38 g1 g2
 refine zG func44 h ?_;rintro v I ⟨rfl,h⟩;refine vn ?_
 refine zN h fun p39 h=>?_;refine zf nm wq ?_;refine zL mo h fun u40 h=>?_;refine zA (wS (vs:=[(0,Sl.v u40)]) (cs:= #[Sl.v u40]) rfl Lr wq z8 rfl rfl) h fun u41 h=>?_;refine zc func46 h ?_;rintro v I ⟨rfl,h⟩;refine zw ?_;refine qf.head (fr':=[(0,.pointer a0),(3,.pointer u0),(6,.pointer u13),(22,Sl.v u7),(23,.int .i64 (u7.len:Int)),(24,.int .i64 u8),(51,Sl.v u21),(52,.int .i64 (u21.len:Int)),(53,.int .i64 (i64.wrap (u22+1)))]) ?_ FL
 exact hY26 _ _ h
def xU(B:World)(ro:AH)(u0:Option Addr)(Q:Option Addr->Int->AH->Prop)(u1:Bool)(I:AH):=
 if u1=true then
 Q none 13 I
 else
 Q u0 0 I
def ur(B:World)(ro:AH)(u0 u1:Option Addr)(Q:Option Addr->Int->AH->Prop)(I:AH):=
 wI B ro u1 I fun u2 I=>
 if¬(u2=0)then
 xU B ro u0 Q true I
 else
 wZ B ro u1 I fun u3 I=>
 xU B ro u0 Q (decide (0<u3)) I
def xd(B:World)(ro:AH)(u0:ByteArray)(u1:Int)(u2 u3:Option Addr)(u4:ByteArray)(u5:Option Addr)(Q:Option Addr->Int->AH->Prop)(Y9:(ByteArray×Int)->AH->Prop)(u6:Bool)(I:AH):=
 if(u6=true)\/(((zD u4 u0)=true)\/(u4=u0))then
 Q none 13 I
 else
 ∃p7,u2=some p7/\
 ∃u8,qb ro I p7=some (.map u8)/\
 awp prog ro (Instr.mapEntry 240 (.map u8) (.string u4)) (fun v I=>
 (∃(u9:Option Addr) (u10:Int),v= .tuple #[.pointer u9,.int .i64 u10]/\
  awp prog ro (Instr.entryStore 240 (.map u8) (.int .i64 u10) (.pointer u5)) (fun _ I=>
  Y9 (u4,i64.wrap (u1 - 1)) I) I)) I
def xV(B:World)(ro:AH)(u0 u1:Option Addr)(Q:Option Addr->Int->AH->Prop):(ByteArray×Int)->AH->((ByteArray×Int)->AH->Prop)->Prop:=fun⟨u2,u3⟩ I Y9=>
 if 0<u3 then
 vE B ro u1 I fun u4 I=>
 aaO B ro u1 u4 I fun u5 I=>
 if u5=none then
  xd B ro u2 u3 u0 u1 u4 u5 Q Y9 true I
 else
 yH B ro u4 I fun u6 I=>
 xd B ro u2 u3 u0 u1 u4 u5 Q Y9 (!u6) I
 else
 ur B ro u0 u1 Q I
def acI(B:World)(ro:AH)(a0:Sl)(I:AH)(Q:Option Addr->Int->AH->Prop):=
 aei B ro I fun u0 I=>
 jm B ro a0 I fun u1 I=>
 qt B ro u1 I fun u2 I=>
 lfpD (xV B ro u0 u1 Q) ((⟨#[]⟩:ByteArray),u2) I
theorem aiu{a0 Q}(h:Sep ro I->acI B ro a0 I Q):aab B ro a0 I Q:=by
 refine zb h func108 ntmps108 fun h=>?_;unfold acI at h;refine zc func67 h ?_;rintro v I ⟨u0,rfl,h⟩;refine zC func53 h fun u1 I h=>?_;refine AW.seqJ (fun fr I=>qg [(4,.pointer u0),(5,.pointer u1)] fr/\ur B ro u0 u1 Q I) ?_ ?_
 .rintro fr I ⟨hl,h⟩;refine AW.weaken ?_ hl (HLe.refl _)
  unfold ur at h;refine AW.seq ?_;refine zC func57 h fun u2 I h=>?_;refine qn 4 (!(decide (u2=0))) (qp mg) h (fun fr I=> ∃(u3:Bool),qg [(4,.pointer u0),(52,.bool u3)] fr/\xU B ro u0 Q u3 I) ?_ ?_ ?_
  .intro h e3 hk3;refine zv e3 ?_;exact hk3 _ _ ⟨_,FL,h⟩
  .intro h e3 hk3;refine zy e3 ?_;refine Lyb rfl rfl rfl rfl e3 (wu rfl func58 rfl rfl rfl (qc.mono h ?_))
   rintro v I ⟨u4,rfl,h⟩;refine zv e3 ?_;exact hk3 _ _ ⟨_,FL,h⟩
  rintro fr I ⟨u3,hl,h⟩;unfold xU at h;refine Lfr hl ?_
  refine zj h (fun h=>?_) fun h=>?_
  .exact zrr h
  exact zrr h
 refine zC func54 h fun u5 I h=>?_;refine qf.loop (fr':=[(4,.pointer u0),(5,.pointer u1),(6,.string (⟨#[]⟩:ByteArray)),(7,.int .i64 u5)]) ?_ FL
 refine h (fun⟨u6,u7⟩ I=>qf _ _ _ _ _ _ [(4,.pointer u0),(5,.pointer u1),(6,.string u6),(7,.int .i64 u7)] I) ?_
 rintro⟨u6,u7⟩ I Y9 hY9 h
 show AW _ _ _ _ _ _ _ _
 unfold xV at h;dsimp only at h;refine AW.seq ?_;refine zi h (fun h=>?_) fun h=>?_
 rotate_left
 .refine AW.exit ?_;refine zw ?_;refine qN ?_
  refine zw ?_;exact⟨FL,h⟩
 refine zw ?_;refine AW.seq ?_;refine zc func55 h ?_;rintro v I ⟨u8,rfl,h⟩;refine zC func167 h fun u9 I h=>?_;refine AW.seq ?_;refine zw ?_;refine zm (afI rfl underlying255 rfl rfl) ?_;refine zw ?_;refine qn 4 u9.isNone vP h (fun fr I=> ∃(u10:Bool),qg [(4,.pointer u0),(5,.pointer u1),(6,.string u6),(7,.int .i64 u7),(8,.string u8),(9,.pointer u9),(30,.bool u10)] fr/\xd B ro u6 u7 u0 u1 u8 u9 Q Y9 u10 I) ?_ ?_ ?_
 .intro h e2 hk2;refine zv e2 ?_;exact hk2 _ _ ⟨_,FL,h⟩
 .intro h e2 hk2;refine zy e2 ?_;refine Lyb rfl rfl rfl rfl e2 (wu rfl func99 rfl rfl rfl (qc.mono h ?_))
  rintro v I ⟨u11,rfl,h⟩;refine zv e2 ?_;exact hk2 _ _ ⟨_,FL,h⟩
 rintro fr I ⟨u10,hl,h⟩;unfold xd at h;refine Lfr hl ?_
 refine zw ?_;refine qx 4 u10 [(4,.pointer u0),(5,.pointer u1),(7,.int .i64 u7),(8,.string u8),(9,.pointer u9),(35,.bool (u10 || ((zD u8 u6) || (decide (u8=u6)))))] ?_ ?_ ?_
 .intro e7 hk7
  refine zv e7 ?_;exact hk7 _ (Fe e7)
 .intro e7 hk7
  refine zv e7 ?_;refine qo (ajh rfl rfl rfl) rfl rfl rfl rfl e7 ?_
  refine zk e7 ?_;exact hk7 _ (Fe e7)
 intro fr hl
 refine Lfr hl ?_
 refine zw ?_;refine AW.iff rfl (qJ Iff.rfl (qJ Iff.rfl mg)) h (fun h=>?_) (fun h=>?_)
 .exact zrr h
 refine zN h fun p12 h=>?_;refine zf Lv afL ?_;refine zLp Lq h fun u13 h=>?_;refine zl (ajo rfl rfl rfl (qj _ h ?_))
 rintro v I ⟨u14,u15,rfl,h⟩;refine zw ?_;refine zl (ajp rfl rfl rfl rfl (qj _ h ?_))
 rintro _ I h
 refine zw ?_;refine qf.head (fr':=[(4,.pointer u0),(5,.pointer u1),(6,.string u8),(7,.int .i64 (i64.wrap (u7 - 1)))]) ?_ FL
 exact hY9 _ _ h
def kF(B:World)(ro:AH)(a0:Option Addr)(a1:ByteArray)(a2 a3:Int)(u0:Option Addr)(Q:Int->Bool->Int->AH->Prop)(u1:Bool)(I:AH):=
 if u1=true then
 Q 0 false 61 I
 else
 ∃p2,u0=some p2/\
 ∃u3,qb ro I p2=some (.int .i64 u3)/\
 ∃p4,u0=some p4/\
 stN p4 (fun I=>
 ∃p5,u0=some p5/\
 ∃p6,u0=some p6/\
 ∃p7,u0=some p7/\
 ∃u8,qb ro I (p5.add 1)=some (.map u8)/\
 ∃u9,qb ro I p6=some (.int .i64 u9)/\
 ∃u10,qb ro I p7=some (.int .i64 u10)/\
 nw ro I (.cells #[.string a1,.int .i64 u10,.int .i64 a2,.int .i64 a3,.int .i64 0,.int .i64 0,Sl.v (⟨none,0,0⟩:Sl)] 83) fun u11 I=>
 awp prog ro (Instr.mapUpdate 252 (.map u8) (.int .i64 u9) (.pointer (some ⟨u11,0,none⟩))) (fun _ I=>
  ∃p12,a0=some p12/\
  ∃u13,qb ro I p12=some (.map u13)/\
  awp prog ro (Instr.mapUpdate 240 (.map u13) (.string a1) (.pointer u0)) (fun _ I=>
  ∃p14,u0=some p14/\
  ∃u15,qb ro I p14=some (.int .i64 u15)/\
  Q u15 true 0 I) I) I) [.int .i64 (i64.wrap (u3+1))] 0 I
def jV(B:World)(ro:AH)(a0:Option Addr)(a1:ByteArray)(a2 a3:Int)(u0:Option Addr)(Q:Int->Bool->Int->AH->Prop)(I:AH):=
 ∃p1,u0=some p1/\
 ∃u2,qb ro I (p1.add 1)=some (.map u2)/\
 awp prog ro (Builtin.len_ #[252] 3 #[.map u2]) (fun v I=> ∃(u3:Int),v= .int .i64 u3/\
 if 64<=u3 then
  kF B ro a0 a1 a2 a3 u0 Q true I
 else
 ∃p4,u0=some p4/\
 ∃u5,qb ro I p4=some (.int .i64 u5)/\
 kF B ro a0 a1 a2 a3 u0 Q (decide (u5=4611686018427387903)) I) I
def acg(B:World)(ro:AH)(a0:Option Addr)(a1:ByteArray)(a2 a3:Int)(p0:Addr)(u1:Option Addr)(Q:Int->Bool->Int->AH->Prop):(Unit)->AH->((Unit)->AH->Prop)->Prop:=fun _ I Y33=>
 awp prog ro (Instr.next (.pointer (some p0)) false 0) (fun v I=>
 (v= .tuple #[.bool false]/\
  jV B ro a0 a1 a2 a3 u1 Q I)\/
 (∃(u2:Value) (u3:Value),v= .tuple #[.bool true,u2,u3]/\
  awp prog ro (Instr.entry (.pointer (some p0))) (fun v I=>
  (∃(u4:Int) (u5:Option Addr),v= .tuple #[.int .i64 u4,.pointer u5]/\
   ∃p6,u5=some p6/\
   ∃u7,qb ro I (p6.add 2)=some (.int .i64 u7)/\
   if u7=a2 then
   Q u4 false 0 I
   else
   Y33 () I)) I)) I
def xe(B:World)(ro:AH)(a0:Option Addr)(a1:ByteArray)(a2 a3:Int)(Q:Int->Bool->Int->AH->Prop)(u0:Option Addr)(I:AH):=
 ∃p1,u0=some p1/\
 ∃u2,qb ro I (p1.add 1)=some (.map u2)/\
 awp prog ro (Instr.range 252 (.map u2)) (fun v I=>
 (∃(p3:Addr),v= .pointer (some p3)/\
  lfpD (acg B ro a0 a1 a2 a3 p3 u0 Q) () I)) I
def aas(B:World)(ro:AH)(a0:Option Addr)(a1:ByteArray)(a2 a3:Int)(I:AH)(Q:Int->Bool->Int->AH->Prop):=
 yH B ro a1 I fun u0 I=>
 if¬(u0=true)then
 Q 0 false 82 I
 else
 acA B ro a2 I fun u1 I=>
 if¬(u1=true)then
 Q 0 false 10 I
 else
 if(a3<1)\/(1048576<a3)then
 Q 0 false 153 I
 else
 ∃p2,a0=some p2/\
 ∃u3,qb ro I p2=some (.map u3)/\
 awp prog ro (Instr.lookup 240 (.map u3) (.string a1) false) (fun v I=>
 (∃(u4:Option Addr),v= .pointer u4/\
  if u4=none then
  nw ro I (.map #[] 0) fun u5 I=>
  nw ro I (.cells #[.int .i64 0,.map (some u5)] 254) fun u6 I=>
  xe B ro a0 a1 a2 a3 Q (some ⟨u6,0,none⟩) I
  else
  xe B ro a0 a1 a2 a3 Q u4 I)) I
theorem agt{a0 a1 a2 a3 Q}(h:Sep ro I->aas B ro a0 a1 a2 a3 I Q):aac B ro a0 a1 a2 a3 I Q:=by
 refine zb h func121 ntmps121 fun h=>?_;unfold aas at h;refine zw ?_;refine AW.seq ?_;refine zC func99 h fun u0 I h=>?_;refine AW.iff rfl (qp Iff.rfl) h (fun h=>?_) (fun h=>?_)
 .refine zw ?_;exact bR3 results121 rfl rfl rfl ⟨_,_,_,rfl,h⟩
 refine zC func178 h fun u1 I h=>?_;refine AW.iff rfl (qp Iff.rfl) h (fun h=>?_) (fun h=>?_)
 .refine zw ?_;exact bR3 results121 rfl rfl rfl ⟨_,_,_,rfl,h⟩
 refine zw ?_;refine qx 3 (decide (a3<1)) [(0,.pointer a0),(1,.string a1),(2,.int .i64 a2),(3,.int .i64 a3),(28,.bool ((decide (a3<1)) || (decide (1048576<a3))))] ?_ ?_ ?_
 .intro e2 hk2
  refine zv e2 ?_;exact hk2 _ (Fe e2)
 .intro e2 hk2
  refine zv e2 ?_;exact hk2 _ (Fe e2)
 intro fr hl
 refine Lfr hl ?_
 refine zw ?_;refine AW.iff rfl (qJ mg mg) h (fun h=>?_) (fun h=>?_)
 .refine zw ?_;exact bR3 results121 rfl rfl rfl ⟨_,_,_,rfl,h⟩
 refine zN h fun p2 h=>?_;refine zf Lv afL ?_;refine zLp Lq h fun u3 h=>?_;refine zl (acW rfl rfl rfl (qj _ h ?_))
 rintro v I ⟨u4,rfl,h⟩;refine zw ?_;refine AW.seqJ (fun fr I=> ∃(u5:Option Addr),qg [(0,.pointer a0),(1,.string a1),(2,.int .i64 a2),(3,.int .i64 a3),(11,.pointer u5)] fr/\xe B ro a0 a1 a2 a3 Q u5 I) ?_ ?_
 rotate_left
 .refine zw ?_;refine zm (afI rfl underlying255 rfl rfl) ?_;refine zw ?_;refine AW.iff rfl vP h (fun h=>?_) (fun h=>?_)
  rotate_left
  .refine zw ?_;exact⟨_,FL,h⟩
  refine zw ?_;refine zA (ad3 rfl) h fun u6 h=>?_;refine zm (wD (vs:=[(1,.map (some u6))]) (cs:= #[.int .i64 0,.map (some u6)]) rfl nB arc ari rfl rfl) ?_;refine zAp (wY rfl rfl) h fun u7 h=>?_;exact⟨_,FL,h⟩
 rintro fr I ⟨u5,hl,h⟩;refine AW.weaken ?_ hl (HLe.refl _)
 unfold xe at h;refine AW.seqJ (fun fr I=>qg [(0,.pointer a0),(1,.string a1),(2,.int .i64 a2),(3,.int .i64 a3),(11,.pointer u5)] fr/\jV B ro a0 a1 a2 a3 u5 Q I) ?_ ?_
 rotate_left
 .refine zN h fun p8 h=>?_;refine zf nB afM ?_;refine zL Lw h fun u9 h=>?_;refine zl (anQ rfl rfl (qj _ h ?_))
  rintro v I ⟨p10,rfl,h⟩;refine zw ?_;refine qf.loop (fr':=[(0,.pointer a0),(1,.string a1),(2,.int .i64 a2),(3,.int .i64 a3),(11,.pointer u5),(44,.pointer (some p10))]) ?_ FL
  refine h (fun _ I=>qf _ _ _ _ _ _ [(0,.pointer a0),(1,.string a1),(2,.int .i64 a2),(3,.int .i64 a3),(11,.pointer u5),(44,.pointer (some p10))] I) ?_
  rintro _ I Y33 hY33 h
  show AW _ _ _ _ _ _ _ _
  unfold acg at h;refine zw ?_;refine zl (anR rfl rfl rfl (qj _ h ?_))
  rintro v I (⟨rfl,h⟩ | ⟨u11,u12,rfl,h⟩)
  .refine zw ?_;refine AW.seq ?_;refine AW.no rfl ?_;refine AW.exit ?_;refine zw ?_;refine qN ?_
   refine zw ?_;exact⟨FL,h⟩
  .refine zw ?_;refine AW.seq ?_;refine AW.yes rfl ?_;refine zw ?_;refine zl (aq6 rfl rfl (qj _ h ?_))
   rintro v I ⟨u13,u14,rfl,h⟩;refine zN h fun p15 h=>?_;refine zf nm ty3 ?_;refine zL mj h fun u16 h=>?_;refine zi h (fun h=>?_) fun h=>?_
   rotate_left
   .refine zw ?_;refine qf.head (fr':=[(0,.pointer a0),(1,.string a1),(2,.int .i64 a2),(3,.int .i64 a3),(11,.pointer u5),(44,.pointer (some p10))]) ?_ FL
    exact hY33 _ _ h
   refine zw ?_;exact bR3 results121 rfl rfl rfl ⟨_,_,_,rfl,h⟩
 rintro fr I ⟨hl,h⟩;refine AW.weaken ?_ hl (HLe.refl _)
 unfold jV at h;refine AW.seq ?_;refine zN h fun p17 h=>?_;refine zf nB afM ?_;refine zL Lw h fun u18 h=>?_;refine zl (yt (s:=Builtin.len_ #[252] 3 #[.map u18]) rfl rfl (fun _=>rfl) (qj _ h ?_))
 rintro v I ⟨u19,rfl,h⟩;refine zw ?_;refine qn 6 (decide (64<=u19)) mg h (fun fr I=> ∃(u20:Bool),qg [(0,.pointer a0),(1,.string a1),(2,.int .i64 a2),(3,.int .i64 a3),(11,.pointer u5),(69,.bool u20)] fr/\kF B ro a0 a1 a2 a3 u5 Q u20 I) ?_ ?_ ?_
 .intro h e6 hk6;refine zv e6 ?_;exact hk6 _ _ ⟨_,FL,h⟩
 .intro h e6 hk6;refine zy e6 ?_;obtain⟨p21,hc,h⟩:=h
  refine qo (qC rfl (by rw[<-hc];try rfl)) rfl rfl rfl rfl e6 ?_
  refine qo (qK rfl nB rfl ty3 z8 rfl) rfl rfl rfl rfl e6 ?_
  obtain⟨u22,hc,h⟩:=h
  refine Lyb rfl rfl rfl rfl e6 (wU rfl mj rfl rfl hc ?_)
  refine zv e6 ?_;exact hk6 _ _ ⟨_,FL,h⟩
 rintro fr I ⟨u20,hl,h⟩;unfold kF at h;refine Lfr hl ?_
 refine zj h (fun h=>?_) fun h=>?_
 .refine zw ?_;exact bR3 results121 rfl rfl rfl ⟨_,_,_,rfl,h⟩
 refine zN h fun p23 h=>?_;refine zf nB ty3 ?_;refine zL mj h fun u24 h=>?_;refine zN h fun p25 h=>?_;refine zf nB ty3 ?_;refine zsp ty3 h fun I h=>?_;refine AW.seq ?_;refine AW.drawn0 (fun i=>([0,0,0,3,0,0,0,3,0,0,0,0,3,0,0,0,0,1,2]:List Nat).getD i 2) [] [0,1,2,4,5,6,8,9,10,11,14,15,3,7,12,13,16,17,18] mixed j0 ?_
 refine zM h fun p26 h=>?_;refine zg nB afM ?_;refine zM h fun p27 h=>?_;refine zg nB ty3 ?_;refine zM h fun p28 h=>?_;refine zg nB ty3 ?_;refine zR Lw h fun u29 h=>?_;refine zR mj h fun u30 h=>?_;refine zR mj h fun u31 h=>?_;refine Dp rfl rfl rfl rfl (wD (vs:=[(0,.string a1),(1,.int .i64 u31)]) (cs:= #[.string a1,.int .i64 u31]) rfl mN zP anV rfl rfl) ?_
 refine Dp rfl rfl rfl rfl (wD (vs:=[(0,.agg #[.string a1,.int .i64 u31]),(1,.int .i64 a2),(2,.int .i64 a3)]) (cs:= #[.string a1,.int .i64 u31,.int .i64 a2,.int .i64 a3,.int .i64 0,.int .i64 0,Sl.v (⟨none,0,0⟩:Sl)]) rfl nm ase ash rfl y0) ?_
 refine Da rfl rfl rfl rfl (wY rfl rfl) fun u32 g1 g2=>?_
 replace h:=h u32 g1 g2
 refine Dg rfl rfl rfl rfl (aie (.inl rfl) rfl rfl rfl (qj _ h ?_))
 rintro _ I h
 refine vn ?_
 refine zN h fun p33 h=>?_;refine zf Lv afL ?_;refine zLp Lq h fun u34 h=>?_;refine zl (aie (.inl rfl) rfl rfl rfl (qj _ h ?_))
 rintro _ I h
 refine zN h fun p35 h=>?_;refine zf nB ty3 ?_;refine zLp mj h fun u36 h=>?_;exact bR3 results121 rfl rfl rfl ⟨_,_,_,rfl,h⟩
def uK(B:World)(ro:AH)(a0:Option Addr)(I:AH)(Q:Sl->AH->Prop):=
 ∃p0,a0=some p0/\
 ∃u1,qb ro I p0=some (.map u1)/\
 aa5 B ro u1 I fun u2 I=>
 jB B ro u2 I fun u3 I=>
 Q u3 I
theorem age{a0 Q}(h:Sep ro I->uK B ro a0 I Q):jP B ro a0 I Q:=by
 refine zb h func139 ntmps139 fun h=>?_;unfold uK at h;refine zN h fun p0 h=>?_;refine zf Lv afL ?_;refine zL Lq h fun u1 h=>?_;refine zc func198 h ?_;rintro u2 I ⟨_,rfl,h⟩
 refine zc func136 h ?_;rintro v I ⟨u3,rfl,h⟩;exact zr h
def pF(B:World)(ro:AH)(a0:Option Addr)(I:AH)(Q:Sl->AH->Prop):=
 ∃p0,a0=some p0/\
 ∃u1,qb ro I (p0.add 1)=some (.map u1)/\
 uN B ro u1 I fun u2 I=>
 ado B ro u2 I fun u3 I=>
 Q u3 I
theorem afA{a0 Q}(h:Sep ro I->pF B ro a0 I Q):jd B ro a0 I Q:=by
 refine zb h func141 ntmps141 fun h=>?_;unfold pF at h;refine zN h fun p0 h=>?_;refine zf nB afM ?_;refine zL Lw h fun u1 h=>?_;refine zc func201 h ?_;rintro u2 I ⟨_,rfl,h⟩
 refine zc func200 h ?_;rintro v I ⟨u3,rfl,h⟩;exact zr h
def xN(B:World)(ro:AH)(a0:Option Addr)(u0:Nat)(Q:Option Addr->AH->Prop)(I:AH):=
 wI B ro a0 I fun u1 I=>
 if¬(u1=0)then
 Q none I
 else
 Q (some ⟨u0,0,none⟩) I
def qv(B:World)(ro:AH)(a0:Option Addr)(a1:ByteArray)(u0:Nat)(u1:Int)(u2:Nat)(u3:Int)(u4:Nat)(Q:Option Addr->AH->Prop)(Y9:(Int×Int)->AH->Prop)(u5:Bool)(I:AH):=
 if u5=true then
 Q none I
 else
 ∃u6,qb ro I ((⟨u0,0,none⟩:Addr).add 1)=some (.map u6)/\
 ∃u7,qb ro I ((⟨u4,0,none⟩:Addr).add 1)=some (.int .i64 u7)/\
 ∃u8,qb ro I ((⟨u4,0,none⟩:Addr).add 2)=some (.int .i64 u8)/\
 ∃u9,qb ro I ((⟨u4,0,none⟩:Addr).add 1)=some (.int .i64 u9)/\
 ∃u10,qb ro I ((⟨u4,0,none⟩:Addr).add 1)=some (.int .i64 u10)/\
 awp prog ro (Instr.mapEntry 252 (.map u6) (.int .i64 u7)) (fun v I=>
 (∃(u11:Option Addr) (u12:Int),v= .tuple #[.pointer u11,.int .i64 u12]/\
  awp prog ro (Instr.entryStore 252 (.map u6) (.int .i64 u12) (.pointer (some ⟨u4,0,none⟩))) (fun _ I=>
  awp prog ro (Instr.mapEntry 395 (.map (some u2)) (.int .i64 u8)) (fun v I=>
   (∃(u13:Int) (u14:Int),v= .tuple #[.int .i64 u13,.int .i64 u14]/\
   awp prog ro (Instr.entryStore 395 (.map (some u2)) (.int .i64 u14) (.int .i64 u9)) (fun _ I=>
    Y9 (u10,i64.wrap (u3+1)) I) I)) I) I)) I
def zT(B:World)(ro:AH)(a0:Option Addr)(a1:ByteArray)(u0:Nat)(u1:Int)(u2:Nat)(Q:Option Addr->AH->Prop):(Int×Int)->AH->((Int×Int)->AH->Prop)->Prop:=fun⟨u3,u4⟩ I Y9=>
 if u4<u1 then
 qt B ro a0 I fun u5 I=>
 nw ro I (.cells #[.string a1,.int .i64 u5,.int .i64 0,.int .i64 0,.int .i64 0,.int .i64 0,Sl.v (⟨none,0,0⟩:Sl)] 83) fun u6 I=>
 qt B ro a0 I fun u7 I=>
 qt B ro a0 I fun u8 I=>
 qt B ro a0 I fun u9 I=>
 qt B ro a0 I fun u10 I=>
 wz B ro a0 I fun u11 I=>
 stN ((⟨u6,0,none⟩:Addr).add 2) (fun I=>
  stN ((⟨u6,0,none⟩:Addr).add 3) (fun I=>
  stN ((⟨u6,0,none⟩:Addr).add 4) (fun I=>
   stN ((⟨u6,0,none⟩:Addr).add 5) (fun I=>
   stN ((⟨u6,0,none⟩:Addr).add 6) (fun I=>
    ∃u12,qb ro I ((⟨u6,0,none⟩:Addr).add 1)=some (.int .i64 u12)/\
    if u12<=u3 then
    qv B ro a0 a1 u0 u1 u2 u4 u6 Q Y9 true I
    else
    ∃u13,qb ro I ((⟨u6,0,none⟩:Addr).add 1)=some (.int .i64 u13)/\
    ∃u14,qb ro I ⟨u0,0,none⟩=some (.int .i64 u14)/\
    if u14<u13 then
    qv B ro a0 a1 u0 u1 u2 u4 u6 Q Y9 true I
    else
    ∃u15,qb ro I ((⟨u6,0,none⟩:Addr).add 2)=some (.int .i64 u15)/\
    acA B ro u15 I fun u16 I=>
    if¬(u16=true)then
    qv B ro a0 a1 u0 u1 u2 u4 u6 Q Y9 true I
    else
    ∃u17,qb ro I ((⟨u6,0,none⟩:Addr).add 2)=some (.int .i64 u17)/\
    awp prog ro (Instr.lookup 395 (.map (some u2)) (.int .i64 u17) false) (fun v I=>
    (∃(u18:Int),v= .int .i64 u18/\
     if 0<u18 then
     qv B ro a0 a1 u0 u1 u2 u4 u6 Q Y9 true I
     else
     ∃u19,qb ro I ((⟨u6,0,none⟩:Addr).add 3)=some (.int .i64 u19)/\
     if u19<1 then
     qv B ro a0 a1 u0 u1 u2 u4 u6 Q Y9 true I
     else
     ∃u20,qb ro I ((⟨u6,0,none⟩:Addr).add 3)=some (.int .i64 u20)/\
     if 1048576<u20 then
     qv B ro a0 a1 u0 u1 u2 u4 u6 Q Y9 true I
     else
     ∃u21,qb ro I ((⟨u6,0,none⟩:Addr).add 5)=some (.int .i64 u21)/\
     if u21=0 then
     ∃u22,qb ro I ((⟨u6,0,none⟩:Addr).add 6)=some (Sl.v u22)/\
     qv B ro a0 a1 u0 u1 u2 u4 u6 Q Y9 (decide (0<(u22.len:Int))) I
     else
     qv B ro a0 a1 u0 u1 u2 u4 u6 Q Y9 false I)) I) [Sl.v u11] 0 I) [.int .i64 u10] 0 I) [.int .i64 u9] 0 I) [.int .i64 u8] 0 I) [.int .i64 u7] 0 I
 else
 xN B ro a0 u0 Q I
def aa3(B:World)(ro:AH)(a0:Option Addr)(a1:ByteArray)(I:AH)(Q:Option Addr->AH->Prop):=
 qt B ro a0 I fun u0 I=>
 nw ro I (.map #[] 0) fun u1 I=>
 nw ro I (.cells #[.int .i64 u0,.map (some u1)] 254) fun u2 I=>
 qt B ro a0 I fun u3 I=>
 ∃u4,qb ro I ⟨u2,0,none⟩=some (.int .i64 u4)/\
 if(u4<1)\/(64<u3)then
 Q none I
 else
 nw ro I (.map #[] 0) fun u5 I=>
 lfpD (zT B ro a0 a1 u2 u3 u5 Q) (0,0) I
theorem aha{a0 a1 Q}(h:Sep ro I->aa3 B ro a0 a1 I Q):aaO B ro a0 a1 I Q:=by
 refine zb h func167 ntmps167 fun h=>?_;unfold aa3 at h;refine zc func54 h ?_;rintro v I ⟨u0,rfl,h⟩;refine zA (ad3 rfl) h fun u1 h=>?_;refine zm (wD (vs:=[(0,.int .i64 u0),(1,.map (some u1))]) (cs:= #[.int .i64 u0,.map (some u1)]) rfl nB arc ari rfl rfl) ?_;refine zA (wY rfl rfl) h fun u2 h=>?_;refine zC func54 h fun u3 I h=>?_;refine AW.seq ?_
 refine zw ?_;refine zm (qC rfl rfl) ?_;refine zf nB ty3 ?_;refine zLp mj h fun u4 h=>?_;refine qx 3 (decide (u4<1)) [(0,.pointer a0),(1,.string a1),(5,.pointer (some ⟨u2,0,none⟩)),(6,.int .i64 u3),(25,.bool ((decide (u4<1)) || (decide (64<u3))))] ?_ ?_ ?_
 .intro e5 hk5
  refine zv e5 ?_;exact hk5 _ (Fe e5)
 .intro e5 hk5
  refine zv e5 ?_;exact hk5 _ (Fe e5)
 intro fr hl
 refine Lfr hl ?_
 refine zw ?_;refine AW.iff rfl (qJ mg mg) h (fun h=>?_) (fun h=>?_)
 .exact zr h
 refine zw ?_;refine zAp (ad3 rfl) h fun u5 h=>?_;refine AW.seqJ (fun fr I=>qg [(0,.pointer a0),(5,.pointer (some ⟨u2,0,none⟩))] fr/\xN B ro a0 u2 Q I) ?_ ?_
 .rintro fr I ⟨hl,h⟩;refine AW.weaken ?_ hl (HLe.refl _)
  unfold xN at h;refine AW.seq ?_;refine zC func57 h fun u6 I h=>?_;refine AW.iff rfl (qp mg) h (fun h=>?_) (fun h=>?_)
  .exact zr h
  exact zr h
 refine zw ?_;refine qf.loop (fr':=[(0,.pointer a0),(1,.string a1),(5,.pointer (some ⟨u2,0,none⟩)),(7,.map (some u5)),(27,.int .i64 u3),(8,.int .i64 0),(28,.int .i64 0)]) ?_ FL
 refine h (fun⟨u7,u8⟩ I=>qf _ _ _ _ _ _ [(0,.pointer a0),(1,.string a1),(5,.pointer (some ⟨u2,0,none⟩)),(7,.map (some u5)),(27,.int .i64 u3),(8,.int .i64 u7),(28,.int .i64 u8)] I) ?_
 rintro⟨u7,u8⟩ I Y9 hY9 h
 show AW _ _ _ _ _ _ _ _
 unfold zT at h;dsimp only at h;refine zw ?_;refine AW.seq ?_;refine zi h (fun h=>?_) fun h=>?_
 rotate_left
 .refine AW.exit ?_;refine zw ?_;refine qN ?_
  refine zw ?_;exact⟨FL,h⟩
 refine zw ?_;refine AW.seq ?_;refine zc func54 h ?_;rintro v I ⟨u9,rfl,h⟩;refine zm (wD (vs:=[(0,.string a1),(1,.int .i64 u9)]) (cs:= #[.string a1,.int .i64 u9]) rfl mN zP anV rfl rfl) ?_;refine zm (wD (vs:=[(0,.agg #[.string a1,.int .i64 u9])]) (cs:= #[.string a1,.int .i64 u9,.int .i64 0,.int .i64 0,.int .i64 0,.int .i64 0,Sl.v (⟨none,0,0⟩:Sl)]) rfl nm ase ash rfl y0) ?_
 refine zA (wY rfl rfl) h fun u10 h=>?_;refine zc func54 h ?_;rintro v I ⟨u11,rfl,h⟩;refine zc func54 h ?_;rintro v I ⟨u12,rfl,h⟩;refine zc func54 h ?_;rintro v I ⟨u13,rfl,h⟩;refine zc func54 h ?_;rintro v I ⟨u14,rfl,h⟩;refine zc func56 h ?_;rintro v I ⟨u15,rfl,h⟩;refine zm (qC rfl rfl) ?_;refine zf nm ty3 ?_;refine zs ty3 h fun I h=>?_;refine zm (qC rfl rfl) ?_
 refine zf nm ty3 ?_;refine zs ty3 h fun I h=>?_;refine zm (qC rfl rfl) ?_;refine zf nm ty3 ?_;refine zs ty3 h fun I h=>?_;refine zm (qC rfl rfl) ?_;refine zf nm ty3 ?_;refine zs ty3 h fun I h=>?_;refine zm (qC rfl rfl) ?_;refine zf nm wq ?_;refine zsp wq h fun I h=>?_;refine AW.seq ?_;refine AW.seqJ (fun fr I=> ∃(u16:Bool),qg [(0,.pointer a0),(1,.string a1),(5,.pointer (some ⟨u2,0,none⟩)),(7,.map (some u5)),(9,.pointer (some ⟨u10,0,none⟩)),(27,.int .i64 u3),(28,.int .i64 u8),(125,.bool u16)] fr/\qv B ro a0 a1 u2 u3 u5 u8 u10 Q Y9 u16 I) ?_ ?_
 .rintro fr I ⟨u16,hl,h⟩;refine AW.weaken ?_ hl (HLe.refl _)
  unfold qv at h;refine zj h (fun h=>?_) fun h=>?_
  .exact zr h
  refine zw ?_;refine AW.drawn0 (fun i=>([0,0,0,3,0,0,0,0,3,0,0,0,0,3,0,0,0,0,0,3,0,0,0,0,3,2,0,2,2,0,2,0]:List Nat).getD i 2) [] [0,1,2,4,5,6,7,9,10,11,12,14,15,16,17,18,20,21,22,23,3,8,13,19,24,25,26,27,28,29,30,31] mixed j0 ?_
  refine zw ?_;refine Dp rfl rfl rfl rfl (qC rfl rfl) ?_
  refine zg nB afM ?_;refine zw ?_;refine Dp rfl rfl rfl rfl (qC rfl rfl) ?_
  refine zg nm zP ?_;refine zg mN ty3 ?_;refine zw ?_;refine Dp rfl rfl rfl rfl (qC rfl rfl) ?_
  refine zg nm ty3 ?_;refine zw ?_;refine Dp rfl rfl rfl rfl (qC rfl rfl) ?_
  refine zg nm zP ?_;refine zg mN ty3 ?_;refine zw ?_;refine Dp rfl rfl rfl rfl (qC rfl rfl) ?_
  refine zg nm zP ?_;refine zg mN ty3 ?_;refine zR Lw h fun u17 h=>?_;refine zR mj h fun u18 h=>?_;refine zR mj h fun u19 h=>?_;refine zR mj h fun u20 h=>?_;refine zR mj h fun u21 h=>?_;refine Dg rfl rfl rfl rfl (ajo rfl rfl rfl (qj _ h ?_))
  rintro v I ⟨u22,u23,rfl,h⟩;refine zw ?_;refine Dg rfl rfl rfl rfl (ajp rfl rfl rfl rfl (qj _ h ?_))
  rintro _ I h
  refine Dg rfl rfl rfl rfl (ajo rfl rfl rfl (qj _ h ?_))
  rintro v I ⟨u24,u25,rfl,h⟩;refine zw ?_;refine Dg rfl rfl rfl rfl (ajp rfl rfl rfl rfl (qj _ h ?_))
  rintro _ I h
  refine zw ?_;refine vn ?_
  refine zw ?_;refine qf.head (fr':=[(0,.pointer a0),(1,.string a1),(5,.pointer (some ⟨u2,0,none⟩)),(7,.map (some u5)),(27,.int .i64 u3),(8,.int .i64 u21),(28,.int .i64 (i64.wrap (u8+1)))]) ?_ FL
  exact hY9 _ _ h
 refine AW.drawn0 (fun i=>([0,0,0,0,3,0,0,0,0,0,0,0,3,0,0,0,3,0,0,0,0,0,0,3,2,0,0,0,0,0,0,0,3,2,0,0,0,0,0,0,3,0,0,0,0,0,0,3,0,0,0,0,0,0,3,0,0,0,0,0,3,0,0,0,0]:List Nat).getD i 2) [(4,6),(4,7),(4,18),(4,19),(4,20),(4,21),(4,22),(4,23),(4,24),(4,26),(4,27),(4,28),(4,33),(12,17),(12,18),(12,19),(12,20),(12,21),(12,22),(12,23),(12,24),(12,26),(12,27),(12,28),(12,33),(16,17),(16,18),(16,19),(16,20),(16,21),(16,22),(16,23),(16,24),(16,26),(16,27),(16,28),(16,33),(23,24),(23,25),(23,26),(23,27),(23,28),(23,33),(24,27),(24,28),(24,29),(24,30),(24,31),(24,32),(24,33),(24,35),(24,36),(24,37),(24,38),(24,39),(24,40),(24,42),(24,43),(24,44),(24,45),(24,46),(24,47),(24,49),(24,50),(24,51),(24,52),(24,53),(24,54),(24,55),(24,56),(24,57),(24,58),(24,59),(24,60),(33,34),(33,35),(33,36),(33,37),(33,38),(33,39),(33,40),(33,42),(33,43),(33,44),(33,45),(33,46),(33,47),(33,49),(33,50),(33,51),(33,52),(33,53),(33,54),(33,55),(33,56),(33,57),(33,58),(33,59),(33,60)] [0,1,2,3,5,4,6,7,8,9,10,11,13,14,15,12,16,17,18,19,20,21,22,23,24,25,26,27,28,29,30,31,32,33,34,35,36,37,38,39,40,41,42,43,44,45,46,47,48,49,50,51,52,53,54,55,56,57,58,59,60,61,62,63,64] mixed j0 ?_
 refine zw ?_;refine Dp rfl rfl rfl rfl (qC rfl rfl) ?_
 refine zg nm zP ?_;refine zg mN ty3 ?_;refine zR mj h fun u26 h=>?_;refine zw ?_;refine abm (decide (u26<=u7)) mg h ?_ ?_
 .intro h e7
  refine Dpn rfl rfl rfl rfl rfl (.inl (by rw[e7];try rfl)) rfl ?_
  refine Dpn rfl rfl rfl rfl rfl (.inl (by rw[e7];try rfl)) rfl ?_
  refine Dpn rfl rfl rfl rfl rfl (.inl (by rw[e7];try rfl)) rfl ?_
  refine Dpn rfl rfl rfl rfl rfl (.inl (by rw[e7];try rfl)) rfl ?_
  refine Dpn rfl rfl rfl rfl rfl (.inl (by rw[e7];try rfl)) rfl ?_
  refine Dpn rfl rfl rfl rfl rfl (.inl (by rw[e7];try rfl)) rfl ?_
  refine Dpn rfl rfl rfl rfl rfl (.inl (by rw[e7];try rfl)) rfl ?_
  refine Drn rfl rfl rfl rfl rfl (.inl (by rw[e7];try rfl)) rfl ?_
  refine Drn rfl rfl rfl rfl rfl (.inl (by rw[e7];try rfl)) rfl ?_
  refine Dpn rfl rfl rfl rfl rfl (.inl (by rw[e7];try rfl)) rfl ?_
  refine Dp rfl rfl rfl rfl (qT rfl (evb e7) rfl) ?_
  refine zw ?_;refine Dpn rfl rfl rfl rfl rfl (.inl rfl) rfl ?_
  refine Dpn rfl rfl rfl rfl rfl (.inl rfl) rfl ?_
  refine Dpn rfl rfl rfl rfl rfl (.inl rfl) rfl ?_
  refine Drn rfl rfl rfl rfl rfl (.inl rfl) rfl ?_
  refine Dgn rfl rfl rfl rfl rfl (.inl rfl) rfl ?_
  refine Dpn rfl rfl rfl rfl rfl (.inl rfl) rfl ?_
  refine Dp rfl rfl rfl rfl (qT rfl (evb rfl) rfl) ?_
  refine zw ?_;refine Dpn rfl rfl rfl rfl rfl (.inl rfl) rfl ?_
  refine Dpn rfl rfl rfl rfl rfl (.inl rfl) rfl ?_
  refine Dpn rfl rfl rfl rfl rfl (.inl rfl) rfl ?_
  refine Dpn rfl rfl rfl rfl rfl (.inl rfl) rfl ?_
  refine Drn rfl rfl rfl rfl rfl (.inl rfl) rfl ?_
  refine Dgn rfl rfl rfl rfl rfl (.inl rfl) rfl ?_
  refine Dpn rfl rfl rfl rfl rfl (.inl rfl) rfl ?_
  refine Dp rfl rfl rfl rfl (qT rfl (evb rfl) rfl) ?_
  refine zw ?_;refine Dpn rfl rfl rfl rfl rfl (.inl rfl) rfl ?_
  refine Dpn rfl rfl rfl rfl rfl (.inl rfl) rfl ?_
  refine Dpn rfl rfl rfl rfl rfl (.inl rfl) rfl ?_
  refine Drn rfl rfl rfl rfl rfl (.inl rfl) rfl ?_
  refine Dpn rfl rfl rfl rfl rfl (.inl rfl) rfl ?_
  refine Dp rfl rfl rfl rfl (qT rfl (evb rfl) rfl) ?_
  refine zw ?_;refine Dpn rfl rfl rfl rfl rfl (.inl rfl) rfl ?_
  refine Dpn rfl rfl rfl rfl rfl (.inl rfl) rfl ?_
  refine Dpn rfl rfl rfl rfl rfl (.inl rfl) rfl ?_
  refine Drn rfl rfl rfl rfl rfl (.inl rfl) rfl ?_
  refine Dpn rfl rfl rfl rfl rfl (.inl rfl) rfl ?_
  refine Dp rfl rfl rfl rfl (qT rfl (evb rfl) rfl) ?_
  refine zw ?_;refine Dpn rfl rfl rfl rfl rfl (.inl rfl) rfl ?_
  refine Dpn rfl rfl rfl rfl rfl (.inl rfl) rfl ?_
  refine Dpn rfl rfl rfl rfl rfl (.inl rfl) rfl ?_
  refine Drn rfl rfl rfl rfl rfl (.inl rfl) rfl ?_
  refine Dpn rfl rfl rfl rfl rfl (.inl rfl) rfl ?_
  refine Dpn rfl rfl rfl rfl rfl (.inl rfl) rfl ?_
  refine Dpn rfl rfl rfl rfl rfl (.inr rfl) rfl ?_
  refine Dpn rfl rfl rfl rfl rfl (.inr rfl) rfl ?_
  refine Dpn rfl rfl rfl rfl rfl (.inr rfl) rfl ?_
  refine Drn rfl rfl rfl rfl rfl (.inr rfl) rfl ?_
  refine Dpn rfl rfl rfl rfl rfl (.inr rfl) rfl ?_
  refine Dpn rfl rfl rfl rfl rfl (.inr rfl) rfl ?_
  refine Dpn rfl rfl rfl rfl rfl (.inl rfl) rfl ?_
  refine Dp rfl rfl rfl rfl (qT rfl (evb rfl) rfl) ?_
  refine vn ?_
  refine zw ?_;exact⟨_,FL,h⟩
 intro h e7
 refine Dpy rfl rfl rfl rfl rfl e7 rfl (zZ rfl rfl) ?_
 refine Dpy rfl rfl rfl rfl rfl e7 rfl (qC rfl rfl) ?_
 refine Dpy rfl rfl rfl rfl rfl e7 rfl (qK rfl nm rfl zP z8 rfl) ?_
 refine Dpy rfl rfl rfl rfl rfl e7 rfl (qK rfl mN rfl ty3 z8 rfl) ?_
 refine Dpy rfl rfl rfl rfl rfl e7 rfl (zZ rfl rfl) ?_
 refine Dpy rfl rfl rfl rfl rfl e7 rfl (qC rfl rfl) ?_
 refine Dpy rfl rfl rfl rfl rfl e7 rfl (qK rfl nB rfl ty3 z8 rfl) ?_
 obtain⟨u27,hc,h⟩:=h
 refine Dry rfl rfl rfl rfl rfl e7 rfl (abT rfl mj rfl rfl hc) ?_
 obtain⟨u28,hc,h⟩:=h
 refine Dry rfl rfl rfl rfl rfl e7 rfl (abT rfl mj rfl rfl hc) ?_
 refine Dpy rfl rfl rfl rfl rfl e7 rfl (aeI rfl rfl rfl) ?_
 refine Dp rfl rfl rfl rfl (wL rfl (evb e7) rfl) ?_
 refine zw ?_;refine abm (decide (u28<u27)) mg h ?_ ?_
 .intro h e19
  refine Dpn rfl rfl rfl rfl rfl (.inl (by rw[e19];try rfl)) rfl ?_
  refine Dpn rfl rfl rfl rfl rfl (.inl (by rw[e19];try rfl)) rfl ?_
  refine Dpn rfl rfl rfl rfl rfl (.inl (by rw[e19];try rfl)) rfl ?_
  refine Drn rfl rfl rfl rfl rfl (.inl (by rw[e19];try rfl)) rfl ?_
  refine Dgn rfl rfl rfl rfl rfl (.inl (by rw[e19];try rfl)) rfl ?_
  refine Dpn rfl rfl rfl rfl rfl (.inl (by rw[e19];try rfl)) rfl ?_
  refine Dp rfl rfl rfl rfl (qT rfl (evb e19) rfl) ?_
  refine zw ?_;refine Dpn rfl rfl rfl rfl rfl (.inl rfl) rfl ?_
  refine Dpn rfl rfl rfl rfl rfl (.inl rfl) rfl ?_
  refine Dpn rfl rfl rfl rfl rfl (.inl rfl) rfl ?_
  refine Dpn rfl rfl rfl rfl rfl (.inl rfl) rfl ?_
  refine Drn rfl rfl rfl rfl rfl (.inl rfl) rfl ?_
  refine Dgn rfl rfl rfl rfl rfl (.inl rfl) rfl ?_
  refine Dpn rfl rfl rfl rfl rfl (.inl rfl) rfl ?_
  refine Dp rfl rfl rfl rfl (qT rfl (evb rfl) rfl) ?_
  refine zw ?_;refine Dpn rfl rfl rfl rfl rfl (.inl rfl) rfl ?_
  refine Dpn rfl rfl rfl rfl rfl (.inl rfl) rfl ?_
  refine Dpn rfl rfl rfl rfl rfl (.inl rfl) rfl ?_
  refine Drn rfl rfl rfl rfl rfl (.inl rfl) rfl ?_
  refine Dpn rfl rfl rfl rfl rfl (.inl rfl) rfl ?_
  refine Dp rfl rfl rfl rfl (qT rfl (evb rfl) rfl) ?_
  refine zw ?_;refine Dpn rfl rfl rfl rfl rfl (.inl rfl) rfl ?_
  refine Dpn rfl rfl rfl rfl rfl (.inl rfl) rfl ?_
  refine Dpn rfl rfl rfl rfl rfl (.inl rfl) rfl ?_
  refine Drn rfl rfl rfl rfl rfl (.inl rfl) rfl ?_
  refine Dpn rfl rfl rfl rfl rfl (.inl rfl) rfl ?_
  refine Dp rfl rfl rfl rfl (qT rfl (evb rfl) rfl) ?_
  refine zw ?_;refine Dpn rfl rfl rfl rfl rfl (.inl rfl) rfl ?_
  refine Dpn rfl rfl rfl rfl rfl (.inl rfl) rfl ?_
  refine Dpn rfl rfl rfl rfl rfl (.inl rfl) rfl ?_
  refine Drn rfl rfl rfl rfl rfl (.inl rfl) rfl ?_
  refine Dpn rfl rfl rfl rfl rfl (.inl rfl) rfl ?_
  refine Dpn rfl rfl rfl rfl rfl (.inl rfl) rfl ?_
  refine Dpn rfl rfl rfl rfl rfl (.inr rfl) rfl ?_
  refine Dpn rfl rfl rfl rfl rfl (.inr rfl) rfl ?_
  refine Dpn rfl rfl rfl rfl rfl (.inr rfl) rfl ?_
  refine Drn rfl rfl rfl rfl rfl (.inr rfl) rfl ?_
  refine Dpn rfl rfl rfl rfl rfl (.inr rfl) rfl ?_
  refine Dpn rfl rfl rfl rfl rfl (.inr rfl) rfl ?_
  refine Dpn rfl rfl rfl rfl rfl (.inl rfl) rfl ?_
  refine Dp rfl rfl rfl rfl (qT rfl (evb rfl) rfl) ?_
  refine vn ?_
  refine zw ?_;exact⟨_,FL,h⟩
 intro h e19
 refine Dpy rfl rfl rfl rfl rfl e19 rfl (zZ rfl rfl) ?_
 refine Dpy rfl rfl rfl rfl rfl e19 rfl (qC rfl rfl) ?_
 refine Dpy rfl rfl rfl rfl rfl e19 rfl (qK rfl nm rfl ty3 z8 rfl) ?_
 obtain⟨u29,hc,h⟩:=h
 refine Dry rfl rfl rfl rfl rfl e19 rfl (abT rfl mj rfl rfl hc) ?_
 refine Dgy rfl rfl rfl rfl rfl e19 rfl (wu rfl func178 rfl rfl rfl (qc.mono h ?_))
 rintro v I ⟨u30,rfl,h⟩;refine Dpy rfl rfl rfl rfl rfl e19 rfl (alB rfl rfl) ?_
 refine Dp rfl rfl rfl rfl (wL rfl (evb e19) rfl) ?_
 refine zw ?_;refine abm (!u30) (qp Iff.rfl) h ?_ ?_
 .intro h e27
  refine Dpn rfl rfl rfl rfl rfl (.inl (by rw[e27];try rfl)) rfl ?_
  refine Dpn rfl rfl rfl rfl rfl (.inl (by rw[e27];try rfl)) rfl ?_
  refine Dpn rfl rfl rfl rfl rfl (.inl (by rw[e27];try rfl)) rfl ?_
  refine Dpn rfl rfl rfl rfl rfl (.inl (by rw[e27];try rfl)) rfl ?_
  refine Drn rfl rfl rfl rfl rfl (.inl (by rw[e27];try rfl)) rfl ?_
  refine Dgn rfl rfl rfl rfl rfl (.inl (by rw[e27];try rfl)) rfl ?_
  refine Dpn rfl rfl rfl rfl rfl (.inl (by rw[e27];try rfl)) rfl ?_
  refine Dp rfl rfl rfl rfl (qT rfl (evb e27) rfl) ?_
  refine zw ?_;refine Dpn rfl rfl rfl rfl rfl (.inl rfl) rfl ?_
  refine Dpn rfl rfl rfl rfl rfl (.inl rfl) rfl ?_
  refine Dpn rfl rfl rfl rfl rfl (.inl rfl) rfl ?_
  refine Drn rfl rfl rfl rfl rfl (.inl rfl) rfl ?_
  refine Dpn rfl rfl rfl rfl rfl (.inl rfl) rfl ?_
  refine Dp rfl rfl rfl rfl (qT rfl (evb rfl) rfl) ?_
  refine zw ?_;refine Dpn rfl rfl rfl rfl rfl (.inl rfl) rfl ?_
  refine Dpn rfl rfl rfl rfl rfl (.inl rfl) rfl ?_
  refine Dpn rfl rfl rfl rfl rfl (.inl rfl) rfl ?_
  refine Drn rfl rfl rfl rfl rfl (.inl rfl) rfl ?_
  refine Dpn rfl rfl rfl rfl rfl (.inl rfl) rfl ?_
  refine Dp rfl rfl rfl rfl (qT rfl (evb rfl) rfl) ?_
  refine zw ?_;refine Dpn rfl rfl rfl rfl rfl (.inl rfl) rfl ?_
  refine Dpn rfl rfl rfl rfl rfl (.inl rfl) rfl ?_
  refine Dpn rfl rfl rfl rfl rfl (.inl rfl) rfl ?_
  refine Drn rfl rfl rfl rfl rfl (.inl rfl) rfl ?_
  refine Dpn rfl rfl rfl rfl rfl (.inl rfl) rfl ?_
  refine Dpn rfl rfl rfl rfl rfl (.inl rfl) rfl ?_
  refine Dpn rfl rfl rfl rfl rfl (.inr rfl) rfl ?_
  refine Dpn rfl rfl rfl rfl rfl (.inr rfl) rfl ?_
  refine Dpn rfl rfl rfl rfl rfl (.inr rfl) rfl ?_
  refine Drn rfl rfl rfl rfl rfl (.inr rfl) rfl ?_
  refine Dpn rfl rfl rfl rfl rfl (.inr rfl) rfl ?_
  refine Dpn rfl rfl rfl rfl rfl (.inr rfl) rfl ?_
  refine Dpn rfl rfl rfl rfl rfl (.inl rfl) rfl ?_
  refine Dp rfl rfl rfl rfl (qT rfl (evb rfl) rfl) ?_
  refine vn ?_
  refine zw ?_;exact⟨_,FL,h⟩
 intro h e27
 refine Dpy rfl rfl rfl rfl rfl e27 rfl (zZ rfl rfl) ?_
 refine Dpy rfl rfl rfl rfl rfl e27 rfl (zZ rfl rfl) ?_
 refine Dpy rfl rfl rfl rfl rfl e27 rfl (qC rfl rfl) ?_
 refine Dpy rfl rfl rfl rfl rfl e27 rfl (qK rfl nm rfl ty3 z8 rfl) ?_
 obtain⟨u31,hc,h⟩:=h
 refine Dry rfl rfl rfl rfl rfl e27 rfl (abT rfl mj rfl rfl hc) ?_
 refine Dgy rfl rfl rfl rfl rfl e27 rfl (acW rfl rfl rfl (qj _ h ?_))
 rintro v I ⟨u32,rfl,h⟩;refine Dpy rfl rfl rfl rfl rfl e27 rfl (aeI rfl rfl rfl) ?_
 refine Dp rfl rfl rfl rfl (wL rfl (evb e27) rfl) ?_
 refine zw ?_;refine abm (decide (0<u32)) mg h ?_ ?_
 .intro h e36
  refine Dpn rfl rfl rfl rfl rfl (.inl (by rw[e36];try rfl)) rfl ?_
  refine Dpn rfl rfl rfl rfl rfl (.inl (by rw[e36];try rfl)) rfl ?_
  refine Dpn rfl rfl rfl rfl rfl (.inl (by rw[e36];try rfl)) rfl ?_
  refine Drn rfl rfl rfl rfl rfl (.inl (by rw[e36];try rfl)) rfl ?_
  refine Dpn rfl rfl rfl rfl rfl (.inl (by rw[e36];try rfl)) rfl ?_
  refine Dp rfl rfl rfl rfl (qT rfl (evb e36) rfl) ?_
  refine zw ?_;refine Dpn rfl rfl rfl rfl rfl (.inl rfl) rfl ?_
  refine Dpn rfl rfl rfl rfl rfl (.inl rfl) rfl ?_
  refine Dpn rfl rfl rfl rfl rfl (.inl rfl) rfl ?_
  refine Drn rfl rfl rfl rfl rfl (.inl rfl) rfl ?_
  refine Dpn rfl rfl rfl rfl rfl (.inl rfl) rfl ?_
  refine Dp rfl rfl rfl rfl (qT rfl (evb rfl) rfl) ?_
  refine zw ?_;refine Dpn rfl rfl rfl rfl rfl (.inl rfl) rfl ?_
  refine Dpn rfl rfl rfl rfl rfl (.inl rfl) rfl ?_
  refine Dpn rfl rfl rfl rfl rfl (.inl rfl) rfl ?_
  refine Drn rfl rfl rfl rfl rfl (.inl rfl) rfl ?_
  refine Dpn rfl rfl rfl rfl rfl (.inl rfl) rfl ?_
  refine Dpn rfl rfl rfl rfl rfl (.inl rfl) rfl ?_
  refine Dpn rfl rfl rfl rfl rfl (.inr rfl) rfl ?_
  refine Dpn rfl rfl rfl rfl rfl (.inr rfl) rfl ?_
  refine Dpn rfl rfl rfl rfl rfl (.inr rfl) rfl ?_
  refine Drn rfl rfl rfl rfl rfl (.inr rfl) rfl ?_
  refine Dpn rfl rfl rfl rfl rfl (.inr rfl) rfl ?_
  refine Dpn rfl rfl rfl rfl rfl (.inr rfl) rfl ?_
  refine Dpn rfl rfl rfl rfl rfl (.inl rfl) rfl ?_
  refine Dp rfl rfl rfl rfl (qT rfl (evb rfl) rfl) ?_
  refine vn ?_
  refine zw ?_;exact⟨_,FL,h⟩
 intro h e36
 refine Dpy rfl rfl rfl rfl rfl e36 rfl (zZ rfl rfl) ?_
 refine Dpy rfl rfl rfl rfl rfl e36 rfl (qC rfl rfl) ?_
 refine Dpy rfl rfl rfl rfl rfl e36 rfl (qK rfl nm rfl ty3 z8 rfl) ?_
 obtain⟨u33,hc,h⟩:=h
 refine Dry rfl rfl rfl rfl rfl e36 rfl (abT rfl mj rfl rfl hc) ?_
 refine Dpy rfl rfl rfl rfl rfl e36 rfl (aly rfl rfl rfl) ?_
 refine Dp rfl rfl rfl rfl (wL rfl (evb e36) rfl) ?_
 refine zw ?_;refine abm (decide (u33<1)) mg h ?_ ?_
 .intro h e43
  refine Dpn rfl rfl rfl rfl rfl (.inl (by rw[e43];try rfl)) rfl ?_
  refine Dpn rfl rfl rfl rfl rfl (.inl (by rw[e43];try rfl)) rfl ?_
  refine Dpn rfl rfl rfl rfl rfl (.inl (by rw[e43];try rfl)) rfl ?_
  refine Drn rfl rfl rfl rfl rfl (.inl (by rw[e43];try rfl)) rfl ?_
  refine Dpn rfl rfl rfl rfl rfl (.inl (by rw[e43];try rfl)) rfl ?_
  refine Dp rfl rfl rfl rfl (qT rfl (evb e43) rfl) ?_
  refine zw ?_;refine Dpn rfl rfl rfl rfl rfl (.inl rfl) rfl ?_
  refine Dpn rfl rfl rfl rfl rfl (.inl rfl) rfl ?_
  refine Dpn rfl rfl rfl rfl rfl (.inl rfl) rfl ?_
  refine Drn rfl rfl rfl rfl rfl (.inl rfl) rfl ?_
  refine Dpn rfl rfl rfl rfl rfl (.inl rfl) rfl ?_
  refine Dpn rfl rfl rfl rfl rfl (.inl rfl) rfl ?_
  refine Dpn rfl rfl rfl rfl rfl (.inr rfl) rfl ?_
  refine Dpn rfl rfl rfl rfl rfl (.inr rfl) rfl ?_
  refine Dpn rfl rfl rfl rfl rfl (.inr rfl) rfl ?_
  refine Drn rfl rfl rfl rfl rfl (.inr rfl) rfl ?_
  refine Dpn rfl rfl rfl rfl rfl (.inr rfl) rfl ?_
  refine Dpn rfl rfl rfl rfl rfl (.inr rfl) rfl ?_
  refine Dpn rfl rfl rfl rfl rfl (.inl rfl) rfl ?_
  refine Dp rfl rfl rfl rfl (qT rfl (evb rfl) rfl) ?_
  refine vn ?_
  refine zw ?_;exact⟨_,FL,h⟩
 intro h e43
 refine Dpy rfl rfl rfl rfl rfl e43 rfl (zZ rfl rfl) ?_
 refine Dpy rfl rfl rfl rfl rfl e43 rfl (qC rfl rfl) ?_
 refine Dpy rfl rfl rfl rfl rfl e43 rfl (qK rfl nm rfl ty3 z8 rfl) ?_
 obtain⟨u34,hc,h⟩:=h
 refine Dry rfl rfl rfl rfl rfl e43 rfl (abT rfl mj rfl rfl hc) ?_
 refine Dpy rfl rfl rfl rfl rfl e43 rfl (aeI rfl rfl rfl) ?_
 refine Dp rfl rfl rfl rfl (wL rfl (evb e43) rfl) ?_
 refine zw ?_;refine abm (decide (1048576<u34)) mg h ?_ ?_
 .intro h e50
  refine Dpn rfl rfl rfl rfl rfl (.inl (by rw[e50];try rfl)) rfl ?_
  refine Dpn rfl rfl rfl rfl rfl (.inl (by rw[e50];try rfl)) rfl ?_
  refine Dpn rfl rfl rfl rfl rfl (.inl (by rw[e50];try rfl)) rfl ?_
  refine Drn rfl rfl rfl rfl rfl (.inl (by rw[e50];try rfl)) rfl ?_
  refine Dpn rfl rfl rfl rfl rfl (.inl (by rw[e50];try rfl)) rfl ?_
  refine Dpn rfl rfl rfl rfl rfl (.inl (by rw[e50];try rfl)) rfl ?_
  refine Dpn rfl rfl rfl rfl rfl (.inr rfl) rfl ?_
  refine Dpn rfl rfl rfl rfl rfl (.inr rfl) rfl ?_
  refine Dpn rfl rfl rfl rfl rfl (.inr rfl) rfl ?_
  refine Drn rfl rfl rfl rfl rfl (.inr rfl) rfl ?_
  refine Dpn rfl rfl rfl rfl rfl (.inr rfl) rfl ?_
  refine Dpn rfl rfl rfl rfl rfl (.inr rfl) rfl ?_
  refine Dpn rfl rfl rfl rfl rfl (.inl (by rw[e50];try rfl)) rfl ?_
  refine Dp rfl rfl rfl rfl (qT rfl (evb e50) rfl) ?_
  refine vn ?_
  refine zw ?_;exact⟨_,FL,h⟩
 intro h e50
 refine Dpy rfl rfl rfl rfl rfl e50 rfl (zZ rfl rfl) ?_
 refine Dpy rfl rfl rfl rfl rfl e50 rfl (qC rfl rfl) ?_
 refine Dpy rfl rfl rfl rfl rfl e50 rfl (qK rfl nm rfl ty3 z8 rfl) ?_
 obtain⟨u35,hc,h⟩:=h
 refine Dry rfl rfl rfl rfl rfl e50 rfl (abT rfl mj rfl rfl hc) ?_
 refine Dpy rfl rfl rfl rfl rfl e50 rfl (alA rfl rfl rfl) ?_
 refine Dpy rfl rfl rfl rfl rfl e50 rfl (zZ rfl rfl) ?_
 refine abm (decide (u35=0)) mg h ?_ ?_
 rotate_left
 .intro h e56
  refine Dpn rfl rfl rfl rfl rfl (.inl (by rw[e56];try rfl)) rfl ?_
  refine Dpn rfl rfl rfl rfl rfl (.inl (by rw[e56];try rfl)) rfl ?_
  refine Dpn rfl rfl rfl rfl rfl (.inl (by rw[e56];try rfl)) rfl ?_
  refine Drn rfl rfl rfl rfl rfl (.inl (by rw[e56];try rfl)) rfl ?_
  refine Dpn rfl rfl rfl rfl rfl (.inl (by rw[e56];try rfl)) rfl ?_
  refine Dpn rfl rfl rfl rfl rfl (.inl (by rw[e56];try rfl)) rfl ?_
  refine Dpy rfl rfl rfl rfl rfl e50 rfl (wL rfl (evb e56) rfl) ?_
  refine Dp rfl rfl rfl rfl (wL rfl (evb e50) rfl) ?_
  refine vn ?_
  refine zw ?_;exact⟨_,FL,h⟩
 intro h e56
 refine Dpy rfl rfl rfl rfl rfl e56 rfl (zZ rfl rfl) ?_
 refine Dpy rfl rfl rfl rfl rfl e56 rfl (qC rfl rfl) ?_
 refine Dpy rfl rfl rfl rfl rfl e56 rfl (qK rfl nm rfl wq z8 rfl) ?_
 obtain⟨u36,hc,h⟩:=h
 refine Dry rfl rfl rfl rfl rfl e56 rfl (abT rfl mo rfl rfl hc) ?_
 refine Dpy rfl rfl rfl rfl rfl e56 rfl (qD rfl rfl mo rfl rfl) ?_
 refine Dpy rfl rfl rfl rfl rfl e56 rfl (aeI rfl rfl rfl) ?_
 refine Dpy rfl rfl rfl rfl rfl e50 rfl (qT rfl (evb e56) rfl) ?_
 refine Dp rfl rfl rfl rfl (wL rfl (evb e50) rfl) ?_
 refine vn ?_
 refine zw ?_;exact⟨_,FL,h⟩
def aat(B:World)(ro:AH)(a0:Int)(I:AH)(Q:Bool->AH->Prop):=
 Q ((decide (1<=a0)) && (decide (a0<=4611686018427387903))) I
theorem aeH{a0 Q}(h:Sep ro I->aat B ro a0 I Q):acA B ro a0 I Q:=by
 refine zb h func178 ntmps178 fun h=>?_;unfold aat at h;refine zw ?_;refine qx 3 (decide (1<=a0)) [(8,.bool ((decide (1<=a0)) && (decide (a0<=4611686018427387903))))] ?_ ?_ ?_
 .intro e2 hk2
  refine zv e2 ?_;exact hk2 _ (Fe e2)
 .intro e2 hk2
  refine zv e2 ?_;exact hk2 _ (Fe e2)
 intro fr hl
 refine Lfr hl ?_
 exact zr h