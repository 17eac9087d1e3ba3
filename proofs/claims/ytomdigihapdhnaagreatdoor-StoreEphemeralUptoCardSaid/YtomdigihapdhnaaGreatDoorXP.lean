import Derived.Test.YtomdigihapdhnaaGreatDoorXO
set_option linter.all false
set_option maxRecDepth 99999
set_option maxHeartbeats 0
open Go.IntKind(i64)
open Go.Proofs.Tryz
namespace Go.Proofs.YtomdigihapdhnaaGreatDoor
namespace G
open Go SL
variable{B:World}{ro I:AH}
def ac1(B:World)(ro I:AH)(Q:Option Addr->AH->Prop):Prop:=
 nw ro I (.map #[] 0) fun u0 I=>
 nw ro I (.cells #[.map (some u0)] 242) fun u1 I=>
 Q (some ⟨u1,0,none⟩) I
theorem ahA{Q}(h:Sep ro I->ac1 B ro I Q):aiD B ro I Q:=by
 refine zb h func67 ntmps67 fun h=>?_;unfold ac1 at h;refine zw ?_;refine zA (ahj rfl) h fun u0 h=>?_;refine zm (wD (vs:=[(0,.map (some u0))]) (cs:= #[.map (some u0)]) rfl Lf avF avP rfl rfl) ?_;refine zA (wB rfl rfl) h fun u1 h=>?_;exact zr h
def vO(B:World)(ro:AH)(a0:Option Addr)(u0:Nat)(Q:Bool->AH->Prop)(u1:Bool)(I:AH):=
 if u1=true then
 Q false I
 else
 uh I fun ψ I=>
 ∃p2,a0=some p2/\
 ∃u3,qa (join ro ψ) (fun _=>none) ((⟨u0,0,none⟩:Addr).add 1)=some (.int .i64 u3)/\
 ∃u4,qa (join ro ψ) I p2=some (.map u4)/\
 ∃u5,qa (join ro ψ) I ⟨u0,0,none⟩=some (.string u5)/\
 awp prog (join ro ψ) (Instr.lookup 240 (.map u4) (.string u5) false) (fun v I=>
  (∃(u6:Option Addr),v= .pointer u6/\
  ∃p7,u6=some p7/\
  ∃u8,qa (join ro ψ) I (p7.add 1)=some (.map u8)/\
  awp prog (join ro ψ) (Builtin.delete_ #[252,3] 0 #[.map u8,.int .i64 u3]) (fun v I=>v= .tuple #[]/\
   (qJ ψ I->(fun I=>
   Q true I) (join ψ I))) I)) I
def uY(B:World)(ro:AH)(a0:Option Addr)(a1_0:ByteArray)(a1_1 a2:Int)(I:AH)(Q:Bool->AH->Prop):=
 nw ro I (.cells #[.string a1_0,.int .i64 a1_1] 81) fun u0 I=>
 ∃u1 u2,qe ro I ⟨u0,0,none⟩ 0 [.string u1,.int .i64 u2]/\
 vd B ro a0 u1 u2 I fun u3 u4 I=>
 if¬(u4=0)then
 vO B ro a0 u0 Q true I
 else
 ∃p5,u3=some p5/\
 ∃u6,qa ro I (p5.add 4)=some (.int .i64 u6)/\
 vO B ro a0 u0 Q (!(decide (u6=a2))) I
theorem agv{a0 a1_0 a1_1 a2 Q}(h:Sep ro I->uY B ro a0 a1_0 a1_1 a2 I Q):uO B ro a0 a1_0 a1_1 a2 I Q:=by
 refine zb h func70 ntmps70 fun h=>?_;unfold uY at h;refine zw ?_;refine zAp (wB rfl rfl) h fun u0 h=>?_;obtain⟨u1,u2,hc,h⟩:=h
 refine zl (wg rfl mz rfl wQ rfl hc ?_)
 refine zc func123 h ?_;rintro v I ⟨u3,u4,rfl,h⟩;refine zw ?_;refine AW.seq ?_;refine zw ?_;refine qE 7 (!(decide (u4=0))) (qp me) h (fun fr I=> ∃(u5:Bool),ql [(0,.pointer a0),(4,.pointer (some ⟨u0,0,none⟩)),(24,.bool u5)] fr/\vO B ro a0 u0 Q u5 I) ?_ ?_ ?_
 .intro h e2 hk2;refine zv e2 ?_;exact hk2 _ _ ⟨_,FL,h⟩
 .intro h e2 hk2;refine zy e2 ?_;obtain⟨p6,hc,h⟩:=h
  refine qH (kO rfl (by rw[<-hc];try rfl)) rfl rfl rfl rfl e2 ?_
  refine qH (qX rfl ni rfl ty3 y0 rfl) rfl rfl rfl rfl e2 ?_
  obtain⟨u7,hc,h⟩:=h
  refine Lyb rfl rfl rfl rfl e2 (vR rfl mf rfl rfl hc ?_)
  refine zv e2 ?_;exact hk2 _ _ ⟨_,FL,h⟩
 rintro fr I ⟨u5,hl,h⟩;unfold vO at h;refine Lfr hl ?_
 refine zj h (fun h=>?_) fun h=>?_
 .exact zr h
 refine zw ?_;refine AW.seq ?_;refine AW.drawnL (fun i=>([0,0,0,3,0,3,2,0,0,3,0,0,2]:List Nat).getD i 2) [(3,6),(3,7),(3,8),(3,9),(3,12),(5,6),(5,7),(5,8),(5,9),(5,12),(6,7),(6,8),(6,9),(6,12)] [0,1,2,4,10,11,3,5,6,7,8,9,12] mixed h j1 ?_
 clear h
 intro ψ I h
 refine zM h fun p8 h=>?_;refine zg Lf afB ?_;refine zg mz ty9 ?_;refine zg mz ty3 ?_;refine zS mf h fun u9 h=>?_;refine zR Le h fun u10 h=>?_;refine zR mj h fun u11 h=>?_;refine Dg rfl rfl rfl rfl (jB rfl rfl rfl (qj _ h ?_))
 rintro v I ⟨u12,rfl,h⟩;refine zM h fun p13 h=>?_;refine zg np aeG ?_;refine zR La h fun u14 h=>?_;refine Dg rfl rfl rfl rfl (kP (s:=Builtin.delete_ #[252,3] 0 #[.map u14,.int .i64 u9]) rfl rfl (fun _=>rfl) (qj _ h ?_))
 rintro v I ⟨rfl,h⟩;refine⟨_,ze.refl _,fun hdj=>?_⟩
 replace h:=h hdj
 exact zr h
def yL(B:World)(ro:AH)(Q:Sl->AH->Prop)(u0:Sl)(I:AH):=
 Q u0 I
def xO(B:World)(ro:AH)(a0:Option Addr)(a1 u0:Sl)(u1:Int)(Q:Sl->AH->Prop)(Y4:(Sl×Int)->AH->Prop)(u2:Sl)(I:AH):=
 Y4 (u2,i64.wrap (u1+1)) I
def kg(B:World)(ro:AH)(a0:Option Addr)(a1 u0:Sl)(u1:Int)(u2:ByteArray)(u3:Sl)(Q:Sl->AH->Prop)(Y4:(Sl×Int)->AH->Prop):(Sl×Int)->AH->((Sl×Int)->AH->Prop)->Prop:=fun⟨u4,u5⟩ I Y17=>
 if u5<(u3.len:Int)then
 ∃p6,u3.a=some p6/\(0:Int)<=u5/\u5<(u3.len:Int)/\
 ∃u7,qa ro I (p6.add (Int.toNat u5*1))=some (.int .i64 u7)/\
 nw ro I (.cells #[.string u2,.int .i64 u7] 81) fun u8 I=>
 awp prog ro (Builtin.append_ #[178,178] 178 #[Sl.v u4,Sl.v (⟨some ⟨u8,0,none⟩,1,1⟩:Sl)]) (fun v I=> ∃(u9:Sl),v=Sl.v u9/\
  Y17 (u9,i64.wrap (u5+1)) I) I
 else
 xO B ro a0 a1 u0 u1 Q Y4 u4 I
def xv(B:World)(ro:AH)(a0:Option Addr)(a1 u0 u1:Sl)(u2:Int)(u3:ByteArray)(Q:Sl->AH->Prop)(Y4:(Sl×Int)->AH->Prop)(u4:Bool)(I:AH):=
 if u4=true then
 xO B ro a0 a1 u1 u2 Q Y4 u0 I
 else
 ∃p5,a0=some p5/\
 ∃u6,qa ro I p5=some (.map u6)/\
 awp prog ro (Instr.lookup 240 (.map u6) (.string u3) false) (fun v I=>
 (∃(u7:Option Addr),v= .pointer u7/\
  ui B ro u7 I fun u8 I=>
  lfpD (kg B ro a0 a1 u1 u2 u3 u8 Q Y4) (u0,0) I)) I
def kz(B:World)(ro:AH)(a0:Option Addr)(a1 u0:Sl)(Q:Sl->AH->Prop):(Sl×Int)->AH->((Sl×Int)->AH->Prop)->Prop:=fun⟨u1,u2⟩ I Y4=>
 if u2<(u0.len:Int)then
 ∃p3,u0.a=some p3/\(0:Int)<=u2/\u2<(u0.len:Int)/\
 ∃u4,qa ro I (p3.add (Int.toNat u2*1))=some (.string u4)/\
 if 0<(a1.len:Int)then
  adH B ro a1 u4 I fun u5 I=>
  xv B ro a0 a1 u1 u0 u2 u4 Q Y4 (!u5) I
 else
 xv B ro a0 a1 u1 u0 u2 u4 Q Y4 false I
 else
 yL B ro Q u1 I
def aa4(B:World)(ro:AH)(a0:Option Addr)(a1:Sl)(I:AH)(Q:Sl->AH->Prop):=
 aao B ro a0 I fun u0 I=>
 lfpD (kz B ro a0 a1 u0 Q) ((⟨none,0,0⟩:Sl),0) I
theorem ahB{a0 a1 Q}(h:Sep ro I->aa4 B ro a0 a1 I Q):aaN B ro a0 a1 I Q:=by
 refine zb h func88 ntmps88 fun h=>?_;unfold aa4 at h;refine zw ?_;refine AW.seqJ (fun fr I=> ∃(u0:Sl),ql [(5,Sl.v u0)] fr/\yL B ro Q u0 I) ?_ ?_
 .rintro fr I ⟨u0,hl,h⟩;refine AW.weaken ?_ hl (HLe.refl _)
  unfold yL at h;exact zr h
 refine zc func139 h ?_;rintro v I ⟨u1,rfl,h⟩;refine zm (qA rfl rfl mv rfl rfl) ?_;refine zw ?_;refine qi.loop (fr':=[(0,.pointer a0),(1,Sl.v a1),(11,Sl.v u1),(12,.int .i64 (u1.len:Int)),(5,Sl.v (⟨none,0,0⟩:Sl)),(13,.int .i64 0)]) ?_ FL
 refine h (fun⟨u2,u3⟩ I=>qi _ _ _ _ _ _ [(0,.pointer a0),(1,Sl.v a1),(11,Sl.v u1),(12,.int .i64 (u1.len:Int)),(5,Sl.v u2),(13,.int .i64 u3)] I) ?_
 rintro⟨u2,u3⟩ I Y4 hY4 h
 show AW _ _ _ _ _ _ _ _
 unfold kz at h;dsimp only at h;refine zw ?_;refine AW.seq ?_;refine zi h (fun h=>?_) fun h=>?_
 rotate_left
 .refine AW.exit ?_;refine zw ?_;refine qT ?_
  refine zw ?_;exact⟨_,FL,h⟩
 refine zw ?_;refine AW.seqJ (fun fr I=> ∃(u4:Sl),ql [(0,.pointer a0),(1,Sl.v a1),(11,Sl.v u1),(12,.int .i64 (u1.len:Int)),(13,.int .i64 u3),(5,Sl.v u4)] fr/\xO B ro a0 a1 u1 u3 Q Y4 u4 I) ?_ ?_
 .rintro fr I ⟨u4,hl,h⟩;refine AW.weaken ?_ hl (HLe.refl _)
  unfold xO at h;refine zw ?_;refine qi.head (fr':=[(0,.pointer a0),(1,Sl.v a1),(11,Sl.v u1),(12,.int .i64 (u1.len:Int)),(5,Sl.v u4),(13,.int .i64 (i64.wrap (u3+1)))]) ?_ FL
  exact hY4 _ _ h
 refine zw ?_;obtain⟨p5,ha,h0,h1,h⟩:=h
 refine zm (zP rfl mv ty9 (ixL rfl ha) rfl h0 h1) ?_;refine zLp mj h fun u6 h=>?_;refine AW.seq ?_;refine zw ?_;refine zm (qA rfl rfl mv rfl rfl) ?_;refine zw ?_;refine qE 5 (decide (0<(a1.len:Int))) me h (fun fr I=> ∃(u7:Bool),ql [(0,.pointer a0),(1,Sl.v a1),(5,Sl.v u2),(7,.string u6),(11,Sl.v u1),(12,.int .i64 (u1.len:Int)),(13,.int .i64 u3),(25,.bool u7)] fr/\xv B ro a0 a1 u2 u1 u3 u6 Q Y4 u7 I) ?_ ?_ ?_
 .intro h e3 hk3;refine zv e3 ?_;refine Lyb rfl rfl rfl rfl e3 (xp rfl func140 rfl rfl rfl (qc.mono h ?_))
  rintro v I ⟨u8,rfl,h⟩;refine zv e3 ?_;exact hk3 _ _ ⟨_,FL,h⟩
 .intro h e3 hk3;refine zv e3 ?_;exact hk3 _ _ ⟨_,FL,h⟩
 rintro fr I ⟨u7,hl,h⟩;unfold xv at h;refine Lfr hl ?_
 refine zj h (fun h=>?_) fun h=>?_
 .refine AW.exit ?_;refine zw ?_;refine qT ?_
  refine zw ?_;exact⟨_,FL,h⟩
 refine zN h fun p9 h=>?_;refine zf Lf afB ?_;refine zLp Le h fun u10 h=>?_;refine zl (jB rfl rfl rfl (qj _ h ?_))
 rintro v I ⟨u11,rfl,h⟩;refine zc func141 h ?_;rintro v I ⟨u12,rfl,h⟩;refine zm (qA rfl rfl mR rfl rfl) ?_;refine zw ?_;refine qi.loop (fr':=[(0,.pointer a0),(1,Sl.v a1),(7,.string u6),(11,Sl.v u1),(12,.int .i64 (u1.len:Int)),(13,.int .i64 u3),(32,Sl.v u12),(33,.int .i64 (u12.len:Int)),(5,Sl.v u2),(34,.int .i64 0)]) ?_ FL
 refine h (fun⟨u13,u14⟩ I=>qi _ _ _ _ _ _ [(0,.pointer a0),(1,Sl.v a1),(7,.string u6),(11,Sl.v u1),(12,.int .i64 (u1.len:Int)),(13,.int .i64 u3),(32,Sl.v u12),(33,.int .i64 (u12.len:Int)),(5,Sl.v u13),(34,.int .i64 u14)] I) ?_
 rintro⟨u13,u14⟩ I Y17 hY17 h
 show AW _ _ _ _ _ _ _ _
 unfold kg at h;dsimp only at h;refine zw ?_;refine AW.seq ?_;refine zi h (fun h=>?_) fun h=>?_
 rotate_left
 .refine AW.exit ?_;refine zw ?_;refine qT ?_
  refine zw ?_;exact⟨_,FL,h⟩
 refine zw ?_;refine AW.seq ?_;refine zw ?_;obtain⟨p15,ha,h0,h1,h⟩:=h
 refine zm (zP rfl mR ty3 (ixL rfl ha) rfl h0 h1) ?_;refine zLp mf h fun u16 h=>?_;refine zm (wD (vs:=[(0,.string u6),(1,.int .i64 u16)]) (cs:= #[.string u6,.int .i64 u16]) rfl mz wQ ask rfl rfl) ?_;refine zA (zo (vs:=[(0,.agg #[.string u6,.int .i64 u16])]) (cs:= #[.string u6,.int .i64 u16]) rfl nU wQ y0 rfl rfl) h fun u17 h=>?_
 refine zl (kP (s:=Builtin.append_ #[178,178] 178 #[Sl.v u13,Sl.v (⟨some ⟨u17,0,none⟩,1,1⟩:Sl)]) rfl rfl (fun _=>rfl) (qj _ h ?_))
 rintro v I ⟨u18,rfl,h⟩;refine zw ?_;refine qi.head (fr':=[(0,.pointer a0),(1,Sl.v a1),(7,.string u6),(11,Sl.v u1),(12,.int .i64 (u1.len:Int)),(13,.int .i64 u3),(32,Sl.v u12),(33,.int .i64 (u12.len:Int)),(5,Sl.v u18),(34,.int .i64 (i64.wrap (u14+1)))]) ?_ FL
 exact hY17 _ _ h
def abv(B:World)(ro:AH)(a0:Option Addr)(a1_0:ByteArray)(a1_1:Int)(I:AH)(Q:ByteArray->Int->Int->Int->Int->Int->Sl->Int->AH->Prop):=
 nw ro I (.cells #[.string a1_0,.int .i64 a1_1] 81) fun u0 I=>
 nw ro I (.cells #[.string ByteArray.empty,.int .i64 0,.int .i64 0,.int .i64 0,.int .i64 0,.int .i64 0,Sl.v (⟨none,0,0⟩:Sl)] 83) fun u1 I=>
 ∃u2 u3,qe ro I ⟨u0,0,none⟩ 0 [.string u2,.int .i64 u3]/\
 vd B ro a0 u2 u3 I fun u4 u5 I=>
 if¬(u5=0)then
 stN ⟨u1,0,none⟩ (fun I=>
  ∃u6 u7 u8 u9 u10 u11 u12,qe ro I ⟨u1,0,none⟩ 0 [.string u6,.int .i64 u7,.int .i64 u8,.int .i64 u9,.int .i64 u10,.int .i64 u11,Sl.v u12]/\
  Q u6 u7 u8 u9 u10 u11 u12 u5 I) [.string ByteArray.empty,.int .i64 0,.int .i64 0,.int .i64 0,.int .i64 0,.int .i64 0,Sl.v (⟨none,0,0⟩:Sl)] 0 I
 else
 ∃p13,u4=some p13/\
 ∃u14 u15 u16 u17 u18 u19 u20,qe ro I p13 0 [.string u14,.int .i64 u15,.int .i64 u16,.int .i64 u17,.int .i64 u18,.int .i64 u19,Sl.v u20]/\
 nw ro I (.cells #[.string ByteArray.empty,.int .i64 0,.int .i64 0,.int .i64 0,.int .i64 0,.int .i64 0,Sl.v (⟨none,0,0⟩:Sl)] 83) fun u21 I=>
 stN ⟨u21,0,none⟩ (fun I=>
 ∃p22,u4=some p22/\
 ∃u23,qa ro I (p22.add 6)=some (Sl.v u23)/\
 vY B ro u23 I fun u24 I=>
 stN ((⟨u21,0,none⟩:Addr).add 6) (fun I=>
  ∃u25 u26 u27 u28 u29 u30 u31,qe ro I ⟨u21,0,none⟩ 0 [.string u25,.int .i64 u26,.int .i64 u27,.int .i64 u28,.int .i64 u29,.int .i64 u30,Sl.v u31]/\
  stN ⟨u1,0,none⟩ (fun I=>
  ∃u32 u33 u34 u35 u36 u37 u38,qe ro I ⟨u1,0,none⟩ 0 [.string u32,.int .i64 u33,.int .i64 u34,.int .i64 u35,.int .i64 u36,.int .i64 u37,Sl.v u38]/\
  Q u32 u33 u34 u35 u36 u37 u38 0 I) [.string u25,.int .i64 u26,.int .i64 u27,.int .i64 u28,.int .i64 u29,.int .i64 u30,Sl.v u31] 0 I) [Sl.v u24] 0 I) [.string u14,.int .i64 u15,.int .i64 u16,.int .i64 u17,.int .i64 u18,.int .i64 u19,Sl.v u20] 0 I
theorem ait{a0 a1_0 a1_1 Q}(h:Sep ro I->abv B ro a0 a1_0 a1_1 I Q):abk B ro a0 a1_0 a1_1 I Q:=by
 refine zb h func89 ntmps89 fun h=>?_;unfold abv at h;refine zw ?_;refine zA (wB rfl rfl) h fun u0 h=>?_;refine zAp (qM rfl aal) h fun u1 h=>?_;obtain⟨u2,u3,hc,h⟩:=h
 refine zl (wg rfl mz rfl wQ rfl hc ?_)
 refine zc func123 h ?_;rintro v I ⟨u4,u5,rfl,h⟩;refine zw ?_;refine AW.seq ?_;refine zw ?_;refine AW.iff rfl (qp me) h (fun h=>?_) (fun h=>?_)
 .refine zw ?_;refine zm (wD (vs:=[]) (cs:= #[.string ByteArray.empty,.int .i64 0,.int .i64 0,.int .i64 0,.int .i64 0,.int .i64 0,Sl.v (⟨none,0,0⟩:Sl)]) rfl ni aal au1 rfl y1) ?_;refine zsp aal h fun I h=>?_;obtain⟨u6,u7,u8,u9,u10,u11,u12,hc0,h⟩:=h
  exact bRM results89 (wh (vM rfl ni rfl aal hc0) (wh (ae5 rfl) vL)) ⟨_,_,_,_,_,_,_,_,rfl,h⟩
 refine zN h fun p13 h=>?_;obtain⟨u14,u15,u16,u17,u18,u19,u20,hc,h⟩:=h
 refine zl (wg rfl ni rfl aal rfl hc ?_)
 refine zA (qM rfl aal) h fun u21 h=>?_;refine zs aal h fun I h=>?_;refine zN h fun p22 h=>?_;refine zf ni wu ?_;refine zL mp h fun u23 h=>?_;refine zc func80 h ?_;rintro v I ⟨u24,rfl,h⟩;refine zf ni wu ?_;refine zsp wu h fun I h=>?_;obtain⟨u25,u26,u27,u28,u29,u30,u31,hc,h⟩:=h
 refine zl (wg rfl ni rfl aal rfl hc ?_)
 refine zsp aal h fun I h=>?_;obtain⟨u32,u33,u34,u35,u36,u37,u38,hc0,h⟩:=h
 exact bRM results89 (wh (vM rfl ni rfl aal hc0) (wh (ae5 rfl) vL)) ⟨_,_,_,_,_,_,_,_,rfl,h⟩
def vl(B:World)(ro:AH)(a0:Option Addr)(a1:ByteArray)(a2 a3:Int)(u0:Option Addr)(Q:Int->Bool->Int->AH->Prop)(u1:Bool)(I:AH):=
 if u1=true then
 Q 0 false 61 I
 else
 ∃p2,u0=some p2/\
 ∃u3,qa ro I p2=some (.int .i64 u3)/\
 ∃p4,u0=some p4/\
 stN p4 (fun I=>
 ∃p5,u0=some p5/\
 ∃p6,u0=some p6/\
 ∃p7,u0=some p7/\
 ∃u8,qa ro I (p5.add 1)=some (.map u8)/\
 ∃u9,qa ro I p6=some (.int .i64 u9)/\
 ∃u10,qa ro I p7=some (.int .i64 u10)/\
 nw ro I (.cells #[.string a1,.int .i64 u10,.int .i64 a2,.int .i64 a3,.int .i64 0,.int .i64 0,Sl.v (⟨none,0,0⟩:Sl)] 83) fun u11 I=>
 awp prog ro (Instr.mapUpdate 252 (.map u8) (.int .i64 u9) (.pointer (some ⟨u11,0,none⟩))) (fun _ I=>
  ∃p12,a0=some p12/\
  ∃u13,qa ro I p12=some (.map u13)/\
  awp prog ro (Instr.mapUpdate 240 (.map u13) (.string a1) (.pointer u0)) (fun _ I=>
  ∃p14,u0=some p14/\
  ∃u15,qa ro I p14=some (.int .i64 u15)/\
  Q u15 true 0 I) I) I) [.int .i64 (i64.wrap (u3+1))] 0 I
def xP(B:World)(ro:AH)(a0:Option Addr)(a1:ByteArray)(a2 a3:Int)(u0:Option Addr)(Q:Int->Bool->Int->AH->Prop)(I:AH):=
 ∃p1,u0=some p1/\
 ∃u2,qa ro I (p1.add 1)=some (.map u2)/\
 awp prog ro (Builtin.len_ #[252] 3 #[.map u2]) (fun v I=> ∃(u3:Int),v= .int .i64 u3/\
 if 64<=u3 then
  vl B ro a0 a1 a2 a3 u0 Q true I
 else
 ∃p4,u0=some p4/\
 ∃u5,qa ro I p4=some (.int .i64 u5)/\
 vl B ro a0 a1 a2 a3 u0 Q (decide (u5=4611686018427387903)) I) I
def yi(B:World)(ro:AH)(a0:Option Addr)(a1:ByteArray)(a2 a3:Int)(p0:Addr)(u1:Option Addr)(Q:Int->Bool->Int->AH->Prop):(Unit)->AH->((Unit)->AH->Prop)->Prop:=fun _ I Y33=>
 awp prog ro (Instr.next (.pointer (some p0)) false 0) (fun v I=>
 (v= .tuple #[.bool false]/\
  xP B ro a0 a1 a2 a3 u1 Q I)\/
 (∃(u2:Value) (u3:Value),v= .tuple #[.bool true,u2,u3]/\
  awp prog ro (Instr.entry (.pointer (some p0))) (fun v I=>
  (∃(u4:Int) (u5:Option Addr),v= .tuple #[.int .i64 u4,.pointer u5]/\
   ∃p6,u5=some p6/\
   ∃u7,qa ro I (p6.add 2)=some (.int .i64 u7)/\
   if u7=a2 then
   Q u4 false 0 I
   else
   Y33 () I)) I)) I
def vE(B:World)(ro:AH)(a0:Option Addr)(a1:ByteArray)(a2 a3:Int)(Q:Int->Bool->Int->AH->Prop)(u0:Option Addr)(I:AH):=
 ∃p1,u0=some p1/\
 ∃u2,qa ro I (p1.add 1)=some (.map u2)/\
 awp prog ro (Instr.range 252 (.map u2)) (fun v I=>
 (∃(p3:Addr),v= .pointer (some p3)/\
  lfpD (yi B ro a0 a1 a2 a3 p3 u0 Q) () I)) I
def pn(B:World)(ro:AH)(a0:Option Addr)(a1:ByteArray)(a2 a3:Int)(I:AH)(Q:Int->Bool->Int->AH->Prop):=
 pq B ro a1 I fun u0 I=>
 if¬(u0=true)then
 Q 0 false 82 I
 else
 aaP B ro a2 I fun u1 I=>
 if¬(u1=true)then
 Q 0 false 10 I
 else
 if(a3<1)\/(1048576<a3)then
 Q 0 false 153 I
 else
 ∃p2,a0=some p2/\
 ∃u3,qa ro I p2=some (.map u3)/\
 awp prog ro (Instr.lookup 240 (.map u3) (.string a1) false) (fun v I=>
 (∃(u4:Option Addr),v= .pointer u4/\
  if u4=none then
  nw ro I (.map #[] 0) fun u5 I=>
  nw ro I (.cells #[.int .i64 0,.map (some u5)] 254) fun u6 I=>
  vE B ro a0 a1 a2 a3 Q (some ⟨u6,0,none⟩) I
  else
  vE B ro a0 a1 a2 a3 Q u4 I)) I
theorem adF{a0 a1 a2 a3 Q}(h:Sep ro I->pn B ro a0 a1 a2 a3 I Q):jb B ro a0 a1 a2 a3 I Q:=by
 refine zb h func121 ntmps121 fun h=>?_;unfold pn at h;refine zw ?_;refine AW.seq ?_;refine zC func99 h fun u0 I h=>?_;refine AW.iff rfl (qp Iff.rfl) h (fun h=>?_) (fun h=>?_)
 .refine zw ?_;exact bR3 results121 rfl rfl rfl ⟨_,_,_,rfl,h⟩
 refine zC func178 h fun u1 I h=>?_;refine AW.iff rfl (qp Iff.rfl) h (fun h=>?_) (fun h=>?_)
 .refine zw ?_;exact bR3 results121 rfl rfl rfl ⟨_,_,_,rfl,h⟩
 refine zw ?_;refine wx 3 (decide (a3<1)) [(0,.pointer a0),(1,.string a1),(2,.int .i64 a2),(3,.int .i64 a3),(28,.bool ((decide (a3<1)) || (decide (1048576<a3))))] ?_ ?_ ?_
 .intro e2 hk2
  refine zv e2 ?_;exact hk2 _ (Fe e2)
 .intro e2 hk2
  refine zv e2 ?_;exact hk2 _ (Fe e2)
 intro fr hl
 refine Lfr hl ?_
 refine zw ?_;refine AW.iff rfl (wS me me) h (fun h=>?_) (fun h=>?_)
 .refine zw ?_;exact bR3 results121 rfl rfl rfl ⟨_,_,_,rfl,h⟩
 refine zN h fun p2 h=>?_;refine zf Lf afB ?_;refine zLp Le h fun u3 h=>?_;refine zl (jB rfl rfl rfl (qj _ h ?_))
 rintro v I ⟨u4,rfl,h⟩;refine zw ?_;refine AW.seqJ (fun fr I=> ∃(u5:Option Addr),ql [(0,.pointer a0),(1,.string a1),(2,.int .i64 a2),(3,.int .i64 a3),(11,.pointer u5)] fr/\vE B ro a0 a1 a2 a3 Q u5 I) ?_ ?_
 rotate_left
 .refine zw ?_;refine zm (aeC rfl underlying255 rfl rfl) ?_;refine zw ?_;refine AW.iff rfl zQ h (fun h=>?_) (fun h=>?_)
  rotate_left
  .refine zw ?_;exact⟨_,FL,h⟩
  refine zw ?_;refine zA (ahj rfl) h fun u6 h=>?_;refine zm (wD (vs:=[(1,.map (some u6))]) (cs:= #[.int .i64 0,.map (some u6)]) rfl np avH avR rfl rfl) ?_;refine zAp (wB rfl rfl) h fun u7 h=>?_;exact⟨_,FL,h⟩
 rintro fr I ⟨u5,hl,h⟩;refine AW.weaken ?_ hl (HLe.refl _)
 unfold vE at h;refine AW.seqJ (fun fr I=>ql [(0,.pointer a0),(1,.string a1),(2,.int .i64 a2),(3,.int .i64 a3),(11,.pointer u5)] fr/\xP B ro a0 a1 a2 a3 u5 Q I) ?_ ?_
 rotate_left
 .refine zN h fun p8 h=>?_;refine zf np aeG ?_;refine zL La h fun u9 h=>?_;refine zl (anr rfl rfl (qj _ h ?_))
  rintro v I ⟨p10,rfl,h⟩;refine zw ?_;refine qi.loop (fr':=[(0,.pointer a0),(1,.string a1),(2,.int .i64 a2),(3,.int .i64 a3),(11,.pointer u5),(44,.pointer (some p10))]) ?_ FL
  refine h (fun _ I=>qi _ _ _ _ _ _ [(0,.pointer a0),(1,.string a1),(2,.int .i64 a2),(3,.int .i64 a3),(11,.pointer u5),(44,.pointer (some p10))] I) ?_
  rintro _ I Y33 hY33 h
  show AW _ _ _ _ _ _ _ _
  unfold yi at h;refine zw ?_;refine zl (ans rfl rfl rfl (qj _ h ?_))
  rintro v I (⟨rfl,h⟩ | ⟨u11,u12,rfl,h⟩)
  .refine zw ?_;refine AW.seq ?_;refine AW.no rfl ?_;refine AW.exit ?_;refine zw ?_;refine qT ?_
   refine zw ?_;exact⟨FL,h⟩
  .refine zw ?_;refine AW.seq ?_;refine AW.yes rfl ?_;refine zw ?_;refine zl (apR rfl rfl (qj _ h ?_))
   rintro v I ⟨u13,u14,rfl,h⟩;refine zN h fun p15 h=>?_;refine zf ni ty3 ?_;refine zL mf h fun u16 h=>?_;refine zi h (fun h=>?_) fun h=>?_
   rotate_left
   .refine zw ?_;refine qi.head (fr':=[(0,.pointer a0),(1,.string a1),(2,.int .i64 a2),(3,.int .i64 a3),(11,.pointer u5),(44,.pointer (some p10))]) ?_ FL
    exact hY33 _ _ h
   refine zw ?_;exact bR3 results121 rfl rfl rfl ⟨_,_,_,rfl,h⟩
 rintro fr I ⟨hl,h⟩;refine AW.weaken ?_ hl (HLe.refl _)
 unfold xP at h;refine AW.seq ?_;refine zN h fun p17 h=>?_;refine zf np aeG ?_;refine zL La h fun u18 h=>?_;refine zl (kP (s:=Builtin.len_ #[252] 3 #[.map u18]) rfl rfl (fun _=>rfl) (qj _ h ?_))
 rintro v I ⟨u19,rfl,h⟩;refine zw ?_;refine qE 6 (decide (64<=u19)) me h (fun fr I=> ∃(u20:Bool),ql [(0,.pointer a0),(1,.string a1),(2,.int .i64 a2),(3,.int .i64 a3),(11,.pointer u5),(69,.bool u20)] fr/\vl B ro a0 a1 a2 a3 u5 Q u20 I) ?_ ?_ ?_
 .intro h e6 hk6;refine zv e6 ?_;exact hk6 _ _ ⟨_,FL,h⟩
 .intro h e6 hk6;refine zy e6 ?_;obtain⟨p21,hc,h⟩:=h
  refine qH (kO rfl (by rw[<-hc];try rfl)) rfl rfl rfl rfl e6 ?_
  refine qH (qX rfl np rfl ty3 y0 rfl) rfl rfl rfl rfl e6 ?_
  obtain⟨u22,hc,h⟩:=h
  refine Lyb rfl rfl rfl rfl e6 (vR rfl mf rfl rfl hc ?_)
  refine zv e6 ?_;exact hk6 _ _ ⟨_,FL,h⟩
 rintro fr I ⟨u20,hl,h⟩;unfold vl at h;refine Lfr hl ?_
 refine zj h (fun h=>?_) fun h=>?_
 .refine zw ?_;exact bR3 results121 rfl rfl rfl ⟨_,_,_,rfl,h⟩
 refine zN h fun p23 h=>?_;refine zf np ty3 ?_;refine zL mf h fun u24 h=>?_;refine zN h fun p25 h=>?_;refine zf np ty3 ?_;refine zsp ty3 h fun I h=>?_;refine AW.seq ?_;refine AW.drawn0 (fun i=>([0,0,0,3,0,0,0,3,0,0,0,0,3,0,0,0,0,1,2]:List Nat).getD i 2) [] [0,1,2,4,5,6,8,9,10,11,14,15,3,7,12,13,16,17,18] mixed j1 ?_
 refine zM h fun p26 h=>?_;refine zg np aeG ?_;refine zM h fun p27 h=>?_;refine zg np ty3 ?_;refine zM h fun p28 h=>?_;refine zg np ty3 ?_;refine zR La h fun u29 h=>?_;refine zR mf h fun u30 h=>?_;refine zR mf h fun u31 h=>?_;refine Dp rfl rfl rfl rfl (wD (vs:=[(0,.string a1),(1,.int .i64 u31)]) (cs:= #[.string a1,.int .i64 u31]) rfl mz wQ ask rfl rfl) ?_
 refine Dp rfl rfl rfl rfl (wD (vs:=[(0,.agg #[.string a1,.int .i64 u31]),(1,.int .i64 a2),(2,.int .i64 a3)]) (cs:= #[.string a1,.int .i64 u31,.int .i64 a2,.int .i64 a3,.int .i64 0,.int .i64 0,Sl.v (⟨none,0,0⟩:Sl)]) rfl ni aal au1 rfl y1) ?_
 refine Da rfl rfl rfl rfl (wB rfl rfl) fun u32 g1 g2=>?_
 replace h:=h u32 g1 g2
 refine Dg rfl rfl rfl rfl (agz (.inl rfl) rfl rfl rfl (qj _ h ?_))
 rintro _ I h
 refine wH ?_
 refine zN h fun p33 h=>?_;refine zf Lf afB ?_;refine zLp Le h fun u34 h=>?_;refine zl (agz (.inl rfl) rfl rfl rfl (qj _ h ?_))
 rintro _ I h
 refine zN h fun p35 h=>?_;refine zf np ty3 ?_;refine zLp mf h fun u36 h=>?_;exact bR3 results121 rfl rfl rfl ⟨_,_,_,rfl,h⟩
def zW(B:World)(ro:AH)(u0:Nat)(u1:Option Addr)(Q:Option Addr->Int->AH->Prop)(u2:Bool)(I:AH):=
 if u2=true then
 Q none 150 I
 else
 ∃p3,u1=some p3/\
 ∃u4,qa ro I (p3.add 1)=some (.map u4)/\
 ∃u5,qa ro I ((⟨u0,0,none⟩:Addr).add 1)=some (.int .i64 u5)/\
 awp prog ro (Instr.lookup 252 (.map u4) (.int .i64 u5) false) (fun v I=>
 (∃(u6:Option Addr),v= .pointer u6/\
  if u6=none then
  Q none 151 I
  else
  ∃p7,u1=some p7/\
  ∃u8,qa ro I (p7.add 1)=some (.map u8)/\
  ∃u9,qa ro I ((⟨u0,0,none⟩:Addr).add 1)=some (.int .i64 u9)/\
  awp prog ro (Instr.lookup 252 (.map u8) (.int .i64 u9) false) (fun v I=>
  (∃(u10:Option Addr),v= .pointer u10/\
   Q u10 0 I)) I)) I
def aa5(B:World)(ro:AH)(a0:Option Addr)(a1_0:ByteArray)(a1_1:Int)(I:AH)(Q:Option Addr->Int->AH->Prop):=
 nw ro I (.cells #[.string a1_0,.int .i64 a1_1] 81) fun u0 I=>
 ∃p1,a0=some p1/\
 ∃u2,qa ro I p1=some (.map u2)/\
 ∃u3,qa ro I ⟨u0,0,none⟩=some (.string u3)/\
 awp prog ro (Instr.lookup 240 (.map u2) (.string u3) false) (fun v I=>
 (∃(u4:Option Addr),v= .pointer u4/\
  if u4=none then
  zW B ro u0 u4 Q true I
  else
  ∃u5,qa ro I ((⟨u0,0,none⟩:Addr).add 1)=some (.int .i64 u5)/\
  if u5<1 then
  zW B ro u0 u4 Q true I
  else
  ∃p6,u4=some p6/\
  ∃u7,qa ro I ((⟨u0,0,none⟩:Addr).add 1)=some (.int .i64 u7)/\
  ∃u8,qa ro I p6=some (.int .i64 u8)/\
  zW B ro u0 u4 Q (decide (u8<u7)) I)) I
theorem ahC{a0 a1_0 a1_1 Q}(h:Sep ro I->aa5 B ro a0 a1_0 a1_1 I Q):vd B ro a0 a1_0 a1_1 I Q:=by
 refine zb h func123 ntmps123 fun h=>?_;unfold aa5 at h;refine zw ?_;refine zAp (wB rfl rfl) h fun u0 h=>?_;refine AW.seq ?_;refine AW.drawn0 (fun i=>([0,0,0,3,0,3,2,0]:List Nat).getD i 2) [] [0,1,2,4,3,5,6,7] mixed j1 ?_
 refine zM h fun p1 h=>?_;refine zg Lf afB ?_;refine zg mz ty9 ?_;refine zR Le h fun u2 h=>?_;refine zR mj h fun u3 h=>?_;refine Dg rfl rfl rfl rfl (jB rfl rfl rfl (qj _ h ?_))
 rintro v I ⟨u4,rfl,h⟩;refine zw ?_;refine wH ?_
 refine zw ?_;refine AW.seq ?_;refine zw ?_;refine AW.seqJ (fun fr I=> ∃(u5:Bool),ql [(3,.pointer (some ⟨u0,0,none⟩)),(6,.pointer u4),(14,.bool u5)] fr/\zW B ro u0 u4 Q u5 I) ?_ ?_
 .rintro fr I ⟨u5,hl,h⟩;refine AW.weaken ?_ hl (HLe.refl _)
  unfold zW at h;refine zj h (fun h=>?_) fun h=>?_
  .exact zrr h
  refine AW.seq ?_;refine AW.drawn0 (fun i=>([0,0,0,3,0,3,2,0,0]:List Nat).getD i 2) [] [0,1,2,4,3,5,6,7,8] mixed j1 ?_
  refine zM h fun p6 h=>?_;refine zg np aeG ?_;refine zg mz ty3 ?_;refine zR La h fun u7 h=>?_;refine zR mf h fun u8 h=>?_;refine Dg rfl rfl rfl rfl (jB rfl rfl rfl (qj _ h ?_))
  rintro v I ⟨u9,rfl,h⟩;refine Dp rfl rfl rfl rfl (aeC rfl underlying249 rfl rfl) ?_
  refine zw ?_;refine wH ?_
  refine zw ?_;refine AW.iff rfl zQ h (fun h=>?_) (fun h=>?_)
  .exact zrr h
  refine zw ?_;refine AW.seq ?_;refine AW.drawn0 (fun i=>([0,0,0,3,0,3,2,0,0]:List Nat).getD i 2) [] [0,1,2,4,3,5,6,7,8] mixed j1 ?_
  refine zM h fun p10 h=>?_;refine zg np aeG ?_;refine zg mz ty3 ?_;refine zR La h fun u11 h=>?_;refine zR mf h fun u12 h=>?_;refine Dg rfl rfl rfl rfl (jB rfl rfl rfl (qj _ h ?_))
  rintro v I ⟨u13,rfl,h⟩;refine zw ?_;refine wH ?_
  exact zrr h
 refine AW.drawn0 (fun i=>([0,0,0,0,3,0,0,0,0,3,0,0,0,3,0,0,0]:List Nat).getD i 2) [] [0,1,2,3,4,5,6,7,8,10,11,12,9,13,14,15,16] mixed j1 ?_
 refine zw ?_;refine Dp rfl rfl rfl rfl (aeC rfl underlying255 rfl rfl) ?_
 refine zw ?_;refine afS u4.isNone zQ h ?_ ?_
 .intro h e2
  refine Dpn rfl rfl rfl rfl rfl (.inl (by rw[e2];try rfl)) rfl ?_
  refine Drn rfl rfl rfl rfl rfl (.inl (by rw[e2];try rfl)) rfl ?_
  refine Dpn rfl rfl rfl rfl rfl (.inl (by rw[e2];try rfl)) rfl ?_
  refine Dp rfl rfl rfl rfl (jT rfl (evb e2) rfl) ?_
  refine zw ?_;refine Dpn rfl rfl rfl rfl rfl (.inl rfl) rfl ?_
  refine Dpn rfl rfl rfl rfl rfl (.inl rfl) rfl ?_
  refine Dpn rfl rfl rfl rfl rfl (.inl rfl) rfl ?_
  refine Dpn rfl rfl rfl rfl rfl (.inl rfl) rfl ?_
  refine Drn rfl rfl rfl rfl rfl (.inl rfl) rfl ?_
  refine Drn rfl rfl rfl rfl rfl (.inl rfl) rfl ?_
  refine Dpn rfl rfl rfl rfl rfl (.inl rfl) rfl ?_
  refine Dp rfl rfl rfl rfl (jT rfl (evb rfl) rfl) ?_
  refine zw ?_;refine wH ?_
  refine zw ?_;exact⟨_,FL,h⟩
 intro h e2
 refine Dpy rfl rfl rfl rfl rfl e2 rfl (qX rfl mz rfl ty3 y0 rfl) ?_
 obtain⟨u14,hc,h⟩:=h
 refine Dry rfl rfl rfl rfl rfl e2 rfl (agR rfl mf rfl rfl hc) ?_
 refine Dpy rfl rfl rfl rfl rfl e2 rfl (ank rfl rfl rfl) ?_
 refine Dp rfl rfl rfl rfl (yH rfl (evb e2) rfl) ?_
 refine zw ?_;refine afS (decide (u14<1)) me h ?_ ?_
 .intro h e7
  refine Dpn rfl rfl rfl rfl rfl (.inl (by rw[e7];try rfl)) rfl ?_
  refine Dpn rfl rfl rfl rfl rfl (.inl (by rw[e7];try rfl)) rfl ?_
  refine Dpn rfl rfl rfl rfl rfl (.inl (by rw[e7];try rfl)) rfl ?_
  refine Dpn rfl rfl rfl rfl rfl (.inl (by rw[e7];try rfl)) rfl ?_
  refine Drn rfl rfl rfl rfl rfl (.inl (by rw[e7];try rfl)) rfl ?_
  refine Drn rfl rfl rfl rfl rfl (.inl (by rw[e7];try rfl)) rfl ?_
  refine Dpn rfl rfl rfl rfl rfl (.inl (by rw[e7];try rfl)) rfl ?_
  refine Dp rfl rfl rfl rfl (jT rfl (evb e7) rfl) ?_
  refine zw ?_;refine wH ?_
  refine zw ?_;exact⟨_,FL,h⟩
 intro h e7
 refine Dpy rfl rfl rfl rfl rfl e7 rfl (qX rfl mz rfl ty3 y0 rfl) ?_
 refine Dpy rfl rfl rfl rfl rfl e7 rfl (jL rfl rfl) ?_
 obtain⟨p15,hc,h⟩:=h
 refine Dpy rfl rfl rfl rfl rfl e7 rfl (kO rfl (by rw[<-hc];try rfl)) ?_
 refine Dpy rfl rfl rfl rfl rfl e7 rfl (qX rfl np rfl ty3 y0 rfl) ?_
 obtain⟨u16,hc,h⟩:=h
 refine Dry rfl rfl rfl rfl rfl e7 rfl (agR rfl mf rfl rfl hc) ?_
 obtain⟨u17,hc,h⟩:=h
 refine Dry rfl rfl rfl rfl rfl e7 rfl (agR rfl mf rfl rfl hc) ?_
 refine Dpy rfl rfl rfl rfl rfl e7 rfl (akY rfl rfl rfl) ?_
 refine Dp rfl rfl rfl rfl (yH rfl (evb e7) rfl) ?_
 refine zw ?_;refine wH ?_
 refine zw ?_;exact⟨_,FL,h⟩
def aay(B:World)(ro:AH)(a0:Option Addr)(a1_0:ByteArray)(a1_1 a2:Int)(I:AH)(Q:Sl->Bool->Int->AH->Prop):=
 nw ro I (.cells #[.string a1_0,.int .i64 a1_1] 81) fun u0 I=>
 ∃u1 u2,qe ro I ⟨u0,0,none⟩ 0 [.string u1,.int .i64 u2]/\
 vd B ro a0 u1 u2 I fun u3 u4 I=>
 if¬(u4=0)then
 Q (⟨none,0,0⟩:Sl) false u4 I
 else
 aaP B ro a2 I fun u5 I=>
 if¬(u5=true)then
 Q (⟨none,0,0⟩:Sl) false 10 I
 else
 ∃p6,u3=some p6/\
 ∃u7,qa ro I (p6.add 5)=some (.int .i64 u7)/\
 if a2=u7 then
 ∃p8,u3=some p8/\
 ∃u9,qa ro I (p8.add 6)=some (Sl.v u9)/\
 vY B ro u9 I fun u10 I=>
 Q u10 true 0 I
 else
 ∃p11,u3=some p11/\
 ∃u12,qa ro I (p11.add 5)=some (.int .i64 u12)/\
 if a2<u12 then
 Q (⟨none,0,0⟩:Sl) false 152 I
 else
 Q (⟨none,0,0⟩:Sl) false 0 I
theorem aha{a0 a1_0 a1_1 a2 Q}(h:Sep ro I->aay B ro a0 a1_0 a1_1 a2 I Q):aam B ro a0 a1_0 a1_1 a2 I Q:=by
 refine zb h func127 ntmps127 fun h=>?_;unfold aay at h;refine zw ?_;refine zAp (wB rfl rfl) h fun u0 h=>?_;obtain⟨u1,u2,hc,h⟩:=h
 refine zl (wg rfl mz rfl wQ rfl hc ?_)
 refine zc func123 h ?_;rintro v I ⟨u3,u4,rfl,h⟩;refine zw ?_;refine AW.seq ?_;refine zw ?_;refine AW.iff rfl (qp me) h (fun h=>?_) (fun h=>?_)
 .refine zw ?_;exact bR3 results127 rfl rfl rfl ⟨_,_,_,rfl,h⟩
 refine zC func178 h fun u5 I h=>?_;refine AW.iff rfl (qp Iff.rfl) h (fun h=>?_) (fun h=>?_)
 .refine zw ?_;exact bR3 results127 rfl rfl rfl ⟨_,_,_,rfl,h⟩
 refine zN h fun p6 h=>?_;refine zf ni ty3 ?_;refine zL mf h fun u7 h=>?_;refine zi h (fun h=>?_) fun h=>?_
 .refine zN h fun p8 h=>?_;refine zf ni wu ?_;refine zL mp h fun u9 h=>?_;refine zC func80 h fun u10 I h=>?_;exact bR3 results127 rfl rfl rfl ⟨_,_,_,rfl,h⟩
 refine zN h fun p11 h=>?_;refine zf ni ty3 ?_;refine zL mf h fun u12 h=>?_;refine zi h (fun h=>?_) fun h=>?_
 .refine zw ?_;exact bR3 results127 rfl rfl rfl ⟨_,_,_,rfl,h⟩
 refine zw ?_;exact bR3 results127 rfl rfl rfl ⟨_,_,_,rfl,h⟩
def aaz(B:World)(ro:AH)(a0:Option Addr)(a1_0:ByteArray)(a1_1:Int)(I:AH)(Q:Int->AH->Prop):=
 nw ro I (.cells #[.string a1_0,.int .i64 a1_1] 81) fun u0 I=>
 ∃u1 u2,qe ro I ⟨u0,0,none⟩ 0 [.string u1,.int .i64 u2]/\
 vd B ro a0 u1 u2 I fun u3 u4 I=>
 if¬(u4=0)then
 Q u4 I
 else
 uh I fun ψ I=>
 ∃p5,a0=some p5/\
 ∃u6,qa (join ro ψ) (fun _=>none) ((⟨u0,0,none⟩:Addr).add 1)=some (.int .i64 u6)/\
 ∃u7,qa (join ro ψ) I p5=some (.map u7)/\
 ∃u8,qa (join ro ψ) I ⟨u0,0,none⟩=some (.string u8)/\
 awp prog (join ro ψ) (Instr.lookup 240 (.map u7) (.string u8) false) (fun v I=>
  (∃(u9:Option Addr),v= .pointer u9/\
  ∃p10,u9=some p10/\
  ∃u11,qa (join ro ψ) I (p10.add 1)=some (.map u11)/\
  awp prog (join ro ψ) (Builtin.delete_ #[252,3] 0 #[.map u11,.int .i64 u6]) (fun v I=>v= .tuple #[]/\
   (qJ ψ I->(fun I=>
   Q 0 I) (join ψ I))) I)) I
theorem ahb{a0 a1_0 a1_1 Q}(h:Sep ro I->aaz B ro a0 a1_0 a1_1 I Q):aan B ro a0 a1_0 a1_1 I Q:=by
 refine zb h func130 ntmps130 fun h=>?_;unfold aaz at h;refine zw ?_;refine zAp (wB rfl rfl) h fun u0 h=>?_;refine AW.seq ?_;refine zw ?_;obtain⟨u1,u2,hc,h⟩:=h
 refine zl (wg rfl mz rfl wQ rfl hc ?_)
 refine zc func123 h ?_;rintro v I ⟨u3,u4,rfl,h⟩;refine zw ?_;refine AW.iff rfl (qp me) h (fun h=>?_) (fun h=>?_)
 .exact zr h
 refine zw ?_;refine AW.seq ?_;refine AW.drawnL (fun i=>([0,0,0,3,0,3,2,0,0,3,0,0,2]:List Nat).getD i 2) [(3,6),(3,7),(3,8),(3,9),(3,12),(5,6),(5,7),(5,8),(5,9),(5,12),(6,7),(6,8),(6,9),(6,12)] [0,1,2,4,10,11,3,5,6,7,8,9,12] mixed h j1 ?_
 clear h
 intro ψ I h
 refine zM h fun p5 h=>?_;refine zg Lf afB ?_;refine zg mz ty9 ?_;refine zg mz ty3 ?_;refine zS mf h fun u6 h=>?_;refine zR Le h fun u7 h=>?_;refine zR mj h fun u8 h=>?_;refine Dg rfl rfl rfl rfl (jB rfl rfl rfl (qj _ h ?_))
 rintro v I ⟨u9,rfl,h⟩;refine zM h fun p10 h=>?_;refine zg np aeG ?_;refine zR La h fun u11 h=>?_;refine Dg rfl rfl rfl rfl (kP (s:=Builtin.delete_ #[252,3] 0 #[.map u11,.int .i64 u6]) rfl rfl (fun _=>rfl) (qj _ h ?_))
 rintro v I ⟨rfl,h⟩;refine⟨_,ze.refl _,fun hdj=>?_⟩
 replace h:=h hdj
 exact zr h
def abw(B:World)(ro:AH)(a0:Option Addr)(a1_0:ByteArray)(a1_1 a2:Int)(a3:Sl)(I:AH)(Q:Int->AH->Prop):=
 nw ro I (.cells #[.string a1_0,.int .i64 a1_1] 81) fun u0 I=>
 ∃u1 u2,qe ro I ⟨u0,0,none⟩ 0 [.string u1,.int .i64 u2]/\
 vd B ro a0 u1 u2 I fun u3 u4 I=>
 if¬(u4=0)then
 Q u4 I
 else
 aaP B ro a2 I fun u5 I=>
 if¬(u5=true)then
 Q 10 I
 else
 ∃p6,u3=some p6/\
 ∃u7,qa ro I (p6.add 5)=some (.int .i64 u7)/\
 if a2<=u7 then
 Q 152 I
 else
 vY B ro a3 I fun u8 I=>
 ∃p9,u3=some p9/\
 stN (p9.add 5) (fun I=>
 ∃p10,u3=some p10/\
 stN (p10.add 6) (fun I=>
  Q 0 I) [Sl.v u8] 0 I) [.int .i64 a2] 0 I
theorem aiu{a0 a1_0 a1_1 a2 a3 Q}(h:Sep ro I->abw B ro a0 a1_0 a1_1 a2 a3 I Q):pY B ro a0 a1_0 a1_1 a2 a3 I Q:=by
 refine zb h func132 ntmps132 fun h=>?_;unfold abw at h;refine zw ?_;refine zAp (wB rfl rfl) h fun u0 h=>?_;obtain⟨u1,u2,hc,h⟩:=h
 refine zl (wg rfl mz rfl wQ rfl hc ?_)
 refine zc func123 h ?_;rintro v I ⟨u3,u4,rfl,h⟩;refine zw ?_;refine AW.seq ?_;refine zw ?_;refine AW.iff rfl (qp me) h (fun h=>?_) (fun h=>?_)
 .exact zr h
 refine zC func178 h fun u5 I h=>?_;refine AW.iff rfl (qp Iff.rfl) h (fun h=>?_) (fun h=>?_)
 .exact zr h
 refine zN h fun p6 h=>?_;refine zf ni ty3 ?_;refine zL mf h fun u7 h=>?_;refine zi h (fun h=>?_) fun h=>?_
 .exact zr h
 refine zc func80 h ?_;rintro v I ⟨u8,rfl,h⟩;refine zN h fun p9 h=>?_;refine zf ni ty3 ?_;refine zs ty3 h fun I h=>?_;refine zN h fun p10 h=>?_;refine zf ni wu ?_;refine zs wu h fun I h=>?_;exact zr h
def aaA(B:World)(ro:AH)(a0:Option Addr)(I:AH)(Q:Sl->AH->Prop):=
 ∃p0,a0=some p0/\
 ∃u1,qa ro I p0=some (.map u1)/\
 aby B ro u1 I fun u2 I=>
 yf B ro u2 I fun u3 I=>
 Q u3 I
theorem ahc{a0 Q}(h:Sep ro I->aaA B ro a0 I Q):aao B ro a0 I Q:=by
 refine zb h func139 ntmps139 fun h=>?_;unfold aaA at h;refine zN h fun p0 h=>?_;refine zf Lf afB ?_;refine zL Le h fun u1 h=>?_;refine zc func198 h ?_;rintro u2 I ⟨_,rfl,h⟩
 refine zc func136 h ?_;rintro v I ⟨u3,rfl,h⟩;exact zr h
def uo(B:World)(ro:AH)(a0:Option Addr)(I:AH)(Q:Sl->AH->Prop):=
 ∃p0,a0=some p0/\
 ∃u1,qa ro I (p0.add 1)=some (.map u1)/\
 aaD B ro u1 I fun u2 I=>
 aei B ro u2 I fun u3 I=>
 Q u3 I
theorem ago{a0 Q}(h:Sep ro I->uo B ro a0 I Q):ui B ro a0 I Q:=by
 refine zb h func141 ntmps141 fun h=>?_;unfold uo at h;refine zN h fun p0 h=>?_;refine zf np aeG ?_;refine zL La h fun u1 h=>?_;refine zc func201 h ?_;rintro u2 I ⟨_,rfl,h⟩
 refine zc func200 h ?_;rintro v I ⟨u3,rfl,h⟩;exact zr h
def ya(B:World)(ro:AH)(a0:Int)(I:AH)(Q:Bool->AH->Prop):=
 Q ((decide (1<=a0)) && (decide (a0<=4611686018427387903))) I
theorem aag{a0 Q}(h:Sep ro I->ya B ro a0 I Q):aaP B ro a0 I Q:=by
 refine zb h func178 ntmps178 fun h=>?_;unfold ya at h;refine zw ?_;refine wx 3 (decide (1<=a0)) [(8,.bool ((decide (1<=a0)) && (decide (a0<=4611686018427387903))))] ?_ ?_ ?_
 .intro e2 hk2
  refine zv e2 ?_;exact hk2 _ (Fe e2)
 .intro e2 hk2
  refine zv e2 ?_;exact hk2 _ (Fe e2)
 intro fr hl
 refine Lfr hl ?_
 exact zr h
def yj(B:World)(ro:AH)(Q:Int->AH->Prop)(I:AH):=
 Q 0 I
def xw(B:World)(ro:AH)(a0:Option Addr)(a1:Sl)(Q:Int->AH->Prop):Int->AH->(Int->AH->Prop)->Prop:=fun u0 I Y3=>
 if u0<(a1.len:Int)then
 ∃p1,a1.a=some p1/\(0:Int)<=u0/\u0<(a1.len:Int)/\
 ∃u2 u3,qe ro I (p1.add (Int.toNat u0*2)) 0 [.string u2,.int .i64 u3]/\
 nw ro I (.cells #[.string ByteArray.empty,.int .i64 0] 81) fun u4 I=>
 stN ⟨u4,0,none⟩ (fun I=>
  uh I fun ψ I=>
  ∃p5,a0=some p5/\
  ∃u6,qa (join ro ψ) (fun _=>none) ((⟨u4,0,none⟩:Addr).add 1)=some (.int .i64 u6)/\
  ∃u7,qa (join ro ψ) I p5=some (.map u7)/\
  ∃u8,qa (join ro ψ) I ⟨u4,0,none⟩=some (.string u8)/\
  awp prog (join ro ψ) (Instr.lookup 240 (.map u7) (.string u8) false) (fun v I=>
   (∃(u9:Option Addr),v= .pointer u9/\
   ∃p10,u9=some p10/\
   ∃u11,qa (join ro ψ) I (p10.add 1)=some (.map u11)/\
   (qJ ψ I->(fun I=>
    awp prog ro (Instr.lookup 252 (.map u11) (.int .i64 u6) false) (fun v I=>
    (∃(u12:Option Addr),v= .pointer u12/\
     ∃p13,u12=some p13/\
     ∃u14,qa ro I (p13.add 4)=some (.int .i64 u14)/\
     ∃p15,u12=some p15/\
     stN (p15.add 4) (fun I=>
     Y3 (i64.wrap (u0+1)) I) [.int .i64 (i64.wrap (u14+1))] 0 I)) I) (join ψ I)))) I) [.string u2,.int .i64 u3] 0 I
 else
 yj B ro Q I
def yk(B:World)(ro:AH)(a0:Option Addr)(a1:Sl)(Q:Int->AH->Prop)(I:AH):=
 lfpD (xw B ro a0 a1 Q) (0) I
def xa(B:World)(ro:AH)(a0:Option Addr)(a1:Sl)(Q:Int->AH->Prop):Int->AH->(Int->AH->Prop)->Prop:=fun u0 I Y19=>
 if u0<(a1.len:Int)then
 ∃p1,a1.a=some p1/\(0:Int)<=u0/\u0<(a1.len:Int)/\
 ∃u2 u3,qe ro I (p1.add (Int.toNat u0*2)) 0 [.string u2,.int .i64 u3]/\
 nw ro I (.cells #[.string ByteArray.empty,.int .i64 0] 81) fun u4 I=>
 stN ⟨u4,0,none⟩ (fun I=>
  ∃u5 u6,qe ro I ⟨u4,0,none⟩ 0 [.string u5,.int .i64 u6]/\
  vd B ro a0 u5 u6 I fun u7 u8 I=>
  if¬(u8=0)then
  Q u8 I
  else
  Y19 (i64.wrap (u0+1)) I) [.string u2,.int .i64 u3] 0 I
 else
 yk B ro a0 a1 Q I
def aaB(B:World)(ro:AH)(a0:Option Addr)(a1:Sl)(I:AH)(Q:Int->AH->Prop):=
 lfpD (xa B ro a0 a1 Q) (0) I
theorem ahd{a0 a1 Q}(h:Sep ro I->aaB B ro a0 a1 I Q):aap B ro a0 a1 I Q:=by
 refine zb h func188 ntmps188 fun h=>?_;unfold aaB at h;refine zw ?_;refine AW.seqJ (fun fr I=>ql [(0,.pointer a0),(1,Sl.v a1)] fr/\yk B ro a0 a1 Q I) ?_ ?_
 rotate_left
 .refine zw ?_;refine zm (qA rfl rfl nU rfl rfl) ?_;refine zw ?_;refine qi.loop (fr':=[(0,.pointer a0),(1,Sl.v a1),(11,Sl.v a1),(12,.int .i64 (a1.len:Int)),(13,.int .i64 0)]) ?_ FL
  refine h (fun u0 I=>qi _ _ _ _ _ _ [(0,.pointer a0),(1,Sl.v a1),(11,Sl.v a1),(12,.int .i64 (a1.len:Int)),(13,.int .i64 u0)] I) ?_
  rintro u0 I Y19 hY19 h
  show AW _ _ _ _ _ _ _ _
  unfold xa at h;refine zw ?_;refine AW.seq ?_;refine zi h (fun h=>?_) fun h=>?_
  rotate_left
  .refine AW.exit ?_;refine zw ?_;refine qT ?_
   refine zw ?_;exact⟨FL,h⟩
  refine zw ?_;refine AW.seq ?_;refine zw ?_;obtain⟨p1,ha,h0,h1,h⟩:=h
  refine zm (zP rfl nU wQ (ixL rfl ha) rfl h0 h1) ?_;obtain⟨u2,u3,hc,h⟩:=h
  refine zl (wg rfl mz rfl wQ rfl hc ?_)
  refine zA (qM rfl wQ) h fun u4 h=>?_;refine zsp wQ h fun I h=>?_;obtain⟨u5,u6,hc,h⟩:=h
  refine zl (wg rfl mz rfl wQ rfl hc ?_)
  refine zc func123 h ?_;rintro v I ⟨u7,u8,rfl,h⟩;refine zw ?_;refine AW.iff rfl (qp me) h (fun h=>?_) (fun h=>?_)
  .exact zr h
  refine zw ?_;refine qi.head (fr':=[(0,.pointer a0),(1,Sl.v a1),(11,Sl.v a1),(12,.int .i64 (a1.len:Int)),(13,.int .i64 (i64.wrap (u0+1)))]) ?_ FL
  exact hY19 _ _ h
 rintro fr I ⟨hl,h⟩;refine AW.weaken ?_ hl (HLe.refl _)
 unfold yk at h;refine AW.seqJ (fun fr I=>ql [] fr/\yj B ro Q I) ?_ ?_
 .rintro fr I ⟨hl,h⟩;refine AW.weaken ?_ hl (HLe.refl _)
  unfold yj at h;exact zr h
 refine zw ?_;refine zm (qA rfl rfl nU rfl rfl) ?_;refine zw ?_;refine qi.loop (fr':=[(0,.pointer a0),(27,Sl.v a1),(28,.int .i64 (a1.len:Int)),(29,.int .i64 0)]) ?_ FL
 refine h (fun u9 I=>qi _ _ _ _ _ _ [(0,.pointer a0),(27,Sl.v a1),(28,.int .i64 (a1.len:Int)),(29,.int .i64 u9)] I) ?_
 rintro u9 I Y3 hY3 h
 show AW _ _ _ _ _ _ _ _
 unfold xw at h;refine zw ?_;refine AW.seq ?_;refine zi h (fun h=>?_) fun h=>?_
 rotate_left
 .refine AW.exit ?_;refine zw ?_;refine qT ?_
  refine zw ?_;exact⟨FL,h⟩
 refine zw ?_;refine AW.seq ?_;refine zw ?_;obtain⟨p10,ha,h0,h1,h⟩:=h
 refine zm (zP rfl nU wQ (ixL rfl ha) rfl h0 h1) ?_;obtain⟨u11,u12,hc,h⟩:=h
 refine zl (wg rfl mz rfl wQ rfl hc ?_)
 refine zA (qM rfl wQ) h fun u13 h=>?_;refine zsp wQ h fun I h=>?_;refine AW.drawn2 (fun i=>([0,0,0,3,0,3,2,0,0,3,0,0,2,0,0,3,0,0,0,2]:List Nat).getD i 2) [(0,1),(0,2),(0,3),(0,6),(0,7),(0,8),(0,9),(0,12),(0,13),(0,14),(0,15),(0,16),(1,2),(1,3),(1,6),(1,7),(1,8),(1,9),(1,12),(1,13),(1,14),(1,15),(1,16),(2,3),(2,6),(2,7),(2,8),(2,9),(2,12),(2,13),(2,14),(2,15),(2,16),(3,6),(3,7),(3,8),(3,9),(3,12),(3,13),(3,14),(3,15),(3,16),(4,5),(4,6),(4,7),(4,8),(4,9),(4,12),(4,13),(4,14),(4,15),(4,16),(5,6),(5,7),(5,8),(5,9),(5,12),(5,13),(5,14),(5,15),(5,16),(6,7),(6,8),(6,9),(6,12),(6,13),(6,14),(6,15),(6,16),(7,8),(7,9),(7,12),(7,13),(7,14),(7,15),(7,16),(8,9),(8,12),(8,13),(8,14),(8,15),(8,16),(9,12),(9,13),(9,14),(9,15),(9,16),(10,11),(10,12),(10,13),(10,14),(10,15),(10,16),(11,12),(11,13),(11,14),(11,15),(11,16),(12,13),(12,14),(12,15)] [0,1,2,4,10,11,3,5,6,7,8,9] [12,13,14,15,16,17,18,19] mixed h j1 ?_
 clear h
 intro ψ I h
 refine zM h fun p14 h=>?_;refine zg Lf afB ?_;refine zg mz ty9 ?_;refine zg mz ty3 ?_;refine zS mf h fun u15 h=>?_;refine zR Le h fun u16 h=>?_;refine zR mj h fun u17 h=>?_;refine Dg rfl rfl rfl rfl (jB rfl rfl rfl (qj _ h ?_))
 rintro v I ⟨u18,rfl,h⟩;refine zM h fun p19 h=>?_;refine zg np aeG ?_;refine zR La h fun u20 h=>?_;refine⟨_,ze.refl _,fun hdj=>?_⟩
 replace h:=h hdj
 refine Dg rfl rfl rfl rfl (jB rfl rfl rfl (qj _ h ?_))
 rintro v I ⟨u21,rfl,h⟩;refine zM h fun p22 h=>?_;refine zg ni ty3 ?_;refine zR mf h fun u23 h=>?_;refine zM h fun p24 h=>?_;refine zg ni ty3 ?_;refine Dg rfl rfl rfl rfl (pI rfl ty3 rfl rfl rfl rfl (zH h fun I h=>?_))
 refine wH ?_
 refine zw ?_;refine qi.head (fr':=[(0,.pointer a0),(27,Sl.v a1),(28,.int .i64 (a1.len:Int)),(29,.int .i64 (i64.wrap (u9+1)))]) ?_ FL
 exact hY3 _ _ h
def aeK(B:World)(ro I:AH)(Q:Option Addr->AH->Prop):Prop:=
 nw ro I (.map #[] 0) fun u0 I=>
 nw ro I (.cells #[.map (some u0)] 245) fun u1 I=>
 Q (some ⟨u1,0,none⟩) I
theorem ajB{Q}(h:Sep ro I->aeK B ro I Q):akg B ro I Q:=by
 refine zb h func68 ntmps68 fun h=>?_;unfold aeK at h;refine zw ?_;refine zA (ahj rfl) h fun u0 h=>?_;refine zm (wD (vs:=[(0,.map (some u0))]) (cs:= #[.map (some u0)]) rfl Lq avG avQ rfl rfl) ?_;refine zA (wB rfl rfl) h fun u1 h=>?_;exact zr h
def yZ(B:World)(ro:AH)(a0:Option Addr)(a1:Sl)(Q:AH->Prop):Int->AH->(Int->AH->Prop)->Prop:=fun u0 I Y1=>
 if u0<(a1.len:Int)then
 ∃p1,a1.a=some p1/\(0:Int)<=u0/\u0<(a1.len:Int)/\
 ∃u2 u3,qe ro I (p1.add (Int.toNat u0*2)) 0 [.string u2,.int .i64 u3]/\
 nw ro I (.cells #[.string ByteArray.empty,.int .i64 0] 81) fun u4 I=>
 stN ⟨u4,0,none⟩ (fun I=>
  ∃p5,a0=some p5/\
  ∃u6,qa ro I p5=some (.map u6)/\
  ∃u7 u8,qe ro I ⟨u4,0,none⟩ 0 [.string u7,.int .i64 u8]/\
  awp prog ro (Builtin.delete_ #[243,81] 0 #[.map u6,.agg #[.string u7,.int .i64 u8]]) (fun v I=>v= .tuple #[]/\
  Y1 (i64.wrap (u0+1)) I) I) [.string u2,.int .i64 u3] 0 I
 else
 Q I
def adt(B:World)(ro:AH)(a0:Option Addr)(a1:Sl)(I:AH)(Q:AH->Prop):=
 lfpD (yZ B ro a0 a1 Q) (0) I
theorem akb{a0 a1 Q}(h:Sep ro I->adt B ro a0 a1 I Q):ac6 B ro a0 a1 I Q:=by
 refine zb h func124 ntmps124 fun h=>?_;unfold adt at h;refine zw ?_;refine zm (qA rfl rfl nU rfl rfl) ?_;refine zw ?_;refine qi.loop (fr':=[(0,.pointer a0),(6,Sl.v a1),(7,.int .i64 (a1.len:Int)),(8,.int .i64 0)]) ?_ FL
 refine h (fun u0 I=>qi _ _ _ _ _ _ [(0,.pointer a0),(6,Sl.v a1),(7,.int .i64 (a1.len:Int)),(8,.int .i64 u0)] I) ?_
 rintro u0 I Y1 hY1 h
 show AW _ _ _ _ _ _ _ _
 unfold yZ at h;refine zw ?_;refine AW.seq ?_;refine zi h (fun h=>?_) fun h=>?_
 rotate_left
 .refine AW.exit ?_;refine zw ?_;refine qT ?_
  exact bN0 results124 ⟨rfl,h⟩
 refine zw ?_;refine AW.seq ?_;refine zw ?_;obtain⟨p1,ha,h0,h1,h⟩:=h
 refine zm (zP rfl nU wQ (ixL rfl ha) rfl h0 h1) ?_;obtain⟨u2,u3,hc,h⟩:=h
 refine zl (wg rfl mz rfl wQ rfl hc ?_)
 refine zA (qM rfl wQ) h fun u4 h=>?_;refine zsp wQ h fun I h=>?_;refine AW.drawn0 (fun i=>([0,0,0,3,3,2]:List Nat).getD i 2) [] [0,1,2,3,4,5] mixed j1 ?_
 refine zM h fun p5 h=>?_;refine zg Lq agD ?_;refine zR Lx h fun u6 h=>?_;obtain⟨u7,u8,hc,h⟩:=h
 refine Dr rfl rfl rfl rfl (xS rfl mz rfl wQ rfl hc) ?_
 refine Dg rfl rfl rfl rfl (kP (s:=Builtin.delete_ #[243,81] 0 #[.map u6,.agg #[.string u7,.int .i64 u8]]) rfl rfl (fun _=>rfl) (qj _ h ?_))
 rintro v I ⟨rfl,h⟩;refine wH ?_
 refine zw ?_;refine qi.head (fr':=[(0,.pointer a0),(6,Sl.v a1),(7,.int .i64 (a1.len:Int)),(8,.int .i64 (i64.wrap (u0+1)))]) ?_ FL
 exact hY1 _ _ h
def aah(B:World)(ro:AH)(Q:Int->AH->Prop)(u0:Int)(I:AH):=
 Q u0 I
def xj(B:World)(ro:AH)(a0:Option Addr)(a1:Sl)(u0:Int)(Q:Int->AH->Prop)(Y3:(Int×Int)->AH->Prop)(u1:Int)(I:AH):=
 Y3 (u1,i64.wrap (u0+1)) I
def xQ(B:World)(ro:AH)(a0:Option Addr)(a1:Sl)(u0:Nat)(u1:Int)(Q:Int->AH->Prop)(Y3:(Int×Int)->AH->Prop)(u2:Int)(I:AH):=
 ∃u3,qa ro I ⟨u0,0,none⟩=some (.int .i64 u3)/\
 if u3=2 then
 ∃u4,qa ro I ((⟨u0,0,none⟩:Addr).add 1)=some (.string u4)/\
 pL B ro a0 u4 2 4 I fun u5 I=>
 xj B ro a0 a1 u1 Q Y3 (i64.wrap (u2+u5)) I
 else
 xj B ro a0 a1 u1 Q Y3 u2 I
def kN(B:World)(ro:AH)(a0:Option Addr)(a1:Sl)(u0:Int)(u1:Nat)(u2:Int)(u3:ByteArray)(Q:Int->AH->Prop)(Y3:(Int×Int)->AH->Prop)(u4:Bool)(I:AH):=
 if u4=true then
 xj B ro a0 a1 u2 Q Y3 u0 I
 else
 ∃u5,qa ro I ((⟨u1,0,none⟩:Addr).add 1)=some (.string u5)/\
 ∃u6,qa ro I ⟨u1,0,none⟩=some (.int .i64 u6)/\
 pL B ro a0 u5 1 u6 I fun u7 I=>
 ∃u8,qa ro I ⟨u1,0,none⟩=some (.int .i64 u8)/\
 if¬(u8=3)then
 pL B ro a0 u3 2 4 I fun u9 I=>
 xQ B ro a0 a1 u1 u2 Q Y3 (i64.wrap ((i64.wrap (u0+u7))+u9)) I
 else
 xQ B ro a0 a1 u1 u2 Q Y3 (i64.wrap (u0+u7)) I
def xR(B:World)(ro:AH)(a0:Option Addr)(a1:Sl)(u0:Int)(u1:Nat)(u2:Int)(u3:ByteArray)(Q:Int->AH->Prop)(Y3:(Int×Int)->AH->Prop)(u4:Bool)(I:AH):=
 if u4=true then
 kN B ro a0 a1 u0 u1 u2 u3 Q Y3 true I
 else
 ∃u5,qa ro I ⟨u1,0,none⟩=some (.int .i64 u5)/\
 kN B ro a0 a1 u0 u1 u2 u3 Q Y3 (decide (3<u5)) I
def kk(B:World)(ro:AH)(a0:Option Addr)(a1:Sl)(Q:Int->AH->Prop):(Int×Int)->AH->((Int×Int)->AH->Prop)->Prop:=fun⟨u0,u1⟩ I Y3=>
 if u1<(a1.len:Int)then
 ∃p2,a1.a=some p2/\(0:Int)<=u1/\u1<(a1.len:Int)/\
 ∃u3 u4,qe ro I (p2.add (Int.toNat u1*2)) 0 [.int .i64 u3,.string u4]/\
 nw ro I (.cells #[.int .i64 0,.string ByteArray.empty] 336) fun u5 I=>
 stN ⟨u5,0,none⟩ (fun I=>
  ∃u6,qa ro I ((⟨u5,0,none⟩:Addr).add 1)=some (.string u6)/\
  yP B ro u6 I fun u7 u8 I=>
  if¬(u8=0)then
  xR B ro a0 a1 u0 u5 u1 u7 Q Y3 true I
  else
  ∃u9,qa ro I ⟨u5,0,none⟩=some (.int .i64 u9)/\
  xR B ro a0 a1 u0 u5 u1 u7 Q Y3 (decide (u9<1)) I) [.int .i64 u3,.string u4] 0 I
 else
 aah B ro Q u0 I
def adu(B:World)(ro:AH)(a0:Option Addr)(a1:Sl)(I:AH)(Q:Int->AH->Prop):=
 lfpD (kk B ro a0 a1 Q) (0,0) I
theorem akc{a0 a1 Q}(h:Sep ro I->adu B ro a0 a1 I Q):aaO B ro a0 a1 I Q:=by
 refine zb h func125 ntmps125 fun h=>?_;unfold adu at h;refine zw ?_;refine AW.seqJ (fun fr I=> ∃(u0:Int),ql [(5,.int .i64 u0)] fr/\aah B ro Q u0 I) ?_ ?_
 .rintro fr I ⟨u0,hl,h⟩;refine AW.weaken ?_ hl (HLe.refl _)
  unfold aah at h;exact zr h
 refine zw ?_;refine zm (qA rfl rfl Lk rfl rfl) ?_;refine zw ?_;refine qi.loop (fr':=[(0,.pointer a0),(10,Sl.v a1),(11,.int .i64 (a1.len:Int)),(5,.int .i64 0),(12,.int .i64 0)]) ?_ FL
 refine h (fun⟨u1,u2⟩ I=>qi _ _ _ _ _ _ [(0,.pointer a0),(10,Sl.v a1),(11,.int .i64 (a1.len:Int)),(5,.int .i64 u1),(12,.int .i64 u2)] I) ?_
 rintro⟨u1,u2⟩ I Y3 hY3 h
 show AW _ _ _ _ _ _ _ _
 unfold kk at h;dsimp only at h;refine zw ?_;refine AW.seq ?_;refine zi h (fun h=>?_) fun h=>?_
 rotate_left
 .refine AW.exit ?_;refine zw ?_;refine qT ?_
  refine zw ?_;exact⟨_,FL,h⟩
 refine zw ?_;refine AW.seqJ (fun fr I=> ∃(u3:Int),ql [(0,.pointer a0),(10,Sl.v a1),(11,.int .i64 (a1.len:Int)),(12,.int .i64 u2),(5,.int .i64 u3)] fr/\xj B ro a0 a1 u2 Q Y3 u3 I) ?_ ?_
 .rintro fr I ⟨u3,hl,h⟩;refine AW.weaken ?_ hl (HLe.refl _)
  unfold xj at h;refine zw ?_;refine qi.head (fr':=[(0,.pointer a0),(10,Sl.v a1),(11,.int .i64 (a1.len:Int)),(5,.int .i64 u3),(12,.int .i64 (i64.wrap (u2+1)))]) ?_ FL
  exact hY3 _ _ h
 refine zw ?_;obtain⟨p4,ha,h0,h1,h⟩:=h
 refine zm (zP rfl Lk ab9 (ixL rfl ha) rfl h0 h1) ?_;obtain⟨u5,u6,hc,h⟩:=h
 refine zl (wg rfl nJ rfl ab9 rfl hc ?_)
 refine zA (qM rfl ab9) h fun u7 h=>?_;refine zs ab9 h fun I h=>?_;refine zf nJ ty9 ?_;refine zL mj h fun u8 h=>?_;refine zc func179 h ?_;rintro v I ⟨u9,u10,rfl,h⟩;refine zw ?_;refine AW.seq ?_;refine zw ?_;refine qE 4 (!(decide (u10=0))) (qp me) h (fun fr I=> ∃(u11:Bool),ql [(0,.pointer a0),(5,.int .i64 u1),(7,.pointer (some ⟨u7,0,none⟩)),(8,.string u9),(10,Sl.v a1),(11,.int .i64 (a1.len:Int)),(12,.int .i64 u2),(28,.bool u11)] fr/\xR B ro a0 a1 u1 u7 u2 u9 Q Y3 u11 I) ?_ ?_ ?_
 .intro h e2 hk2;refine zv e2 ?_;exact hk2 _ _ ⟨_,FL,h⟩
 .intro h e2 hk2;refine qH (qX rfl nJ rfl ty3 y0 rfl) rfl rfl rfl rfl e2 ?_
  obtain⟨u12,hc,h⟩:=h
  refine Lyb rfl rfl rfl rfl e2 (vR rfl mf rfl rfl hc ?_)
  refine zv e2 ?_;exact hk2 _ _ ⟨_,FL,h⟩
 rintro fr I ⟨u11,hl,h⟩;unfold xR at h;refine Lfr hl ?_
 refine zw ?_;refine qE 4 u11 Iff.rfl h (fun fr I=> ∃(u13:Bool),ql [(0,.pointer a0),(5,.int .i64 u1),(7,.pointer (some ⟨u7,0,none⟩)),(8,.string u9),(10,Sl.v a1),(11,.int .i64 (a1.len:Int)),(12,.int .i64 u2),(33,.bool u13)] fr/\kN B ro a0 a1 u1 u7 u2 u9 Q Y3 u13 I) ?_ ?_ ?_
 .intro h e7 hk7;refine zv e7 ?_;exact hk7 _ _ ⟨_,FL,h⟩
 .intro h e7 hk7;refine qH (qX rfl nJ rfl ty3 y0 rfl) rfl rfl rfl rfl e7 ?_
  obtain⟨u14,hc,h⟩:=h
  refine Lyb rfl rfl rfl rfl e7 (vR rfl mf rfl rfl hc ?_)
  refine zv e7 ?_;exact hk7 _ _ ⟨_,FL,h⟩
 rintro fr I ⟨u13,hl,h⟩;unfold kN at h;refine Lfr hl ?_
 refine zj h (fun h=>?_) fun h=>?_
 .refine AW.exit ?_;refine zw ?_;refine qT ?_
  refine zw ?_;exact⟨_,FL,h⟩
 refine zf nJ ty9 ?_;refine zL mj h fun u15 h=>?_;refine zm (wD (vs:=[(0,.string u15),(1,.int .i64 1)]) (cs:= #[.string u15,.int .i64 1]) rfl nC adU anx rfl rfl) ?_;refine zf nJ ty3 ?_;refine zL mf h fun u16 h=>?_;refine zC func181 h fun u17 I h=>?_;refine AW.seqJ (fun fr I=> ∃(u18:Int),ql [(0,.pointer a0),(7,.pointer (some ⟨u7,0,none⟩)),(10,Sl.v a1),(11,.int .i64 (a1.len:Int)),(12,.int .i64 u2),(5,.int .i64 u18)] fr/\xQ B ro a0 a1 u7 u2 Q Y3 u18 I) ?_ ?_
 rotate_left
 .refine zf nJ ty3 ?_;refine zLp mf h fun u19 h=>?_;refine AW.iff rfl (qp me) h (fun h=>?_) (fun h=>?_)
  rotate_left
  .refine zw ?_;exact⟨_,FL,h⟩
  refine zw ?_;refine zm (wD (vs:=[(0,.string u9),(1,.int .i64 2)]) (cs:= #[.string u9,.int .i64 2]) rfl nC adU anx rfl rfl) ?_;refine zC func181 h fun u20 I h=>?_;exact⟨_,FL,h⟩
 rintro fr I ⟨u18,hl,h⟩;refine AW.weaken ?_ hl (HLe.refl _)
 unfold xQ at h;refine zf nJ ty3 ?_;refine zL mf h fun u21 h=>?_;refine zi h (fun h=>?_) fun h=>?_
 rotate_left
 .refine zw ?_;exact⟨_,FL,h⟩
 refine zf nJ ty9 ?_;refine zL mj h fun u22 h=>?_;refine zm (wD (vs:=[(0,.string u22),(1,.int .i64 2)]) (cs:= #[.string u22,.int .i64 2]) rfl nC adU anx rfl rfl) ?_;refine zC func181 h fun u23 I h=>?_;exact⟨_,FL,h⟩
def acy(B:World)(ro:AH)(a0:Option Addr)(a1_0:ByteArray)(a1_1:Int)(I:AH)(Q:Sl->AH->Prop):=
 nw ro I (.cells #[.string a1_0,.int .i64 a1_1] 81) fun u0 I=>
 ∃p1,a0=some p1/\
 ∃u2,qa ro I p1=some (.map u2)/\
 ∃u3 u4,qe ro I ⟨u0,0,none⟩ 0 [.string u3,.int .i64 u4]/\
 awp prog ro (Instr.lookup 243 (.map u2) (.agg #[.string u3,.int .i64 u4]) false) (fun v I=>
 (∃(u5:Option Addr),v= .pointer u5/\
  if¬(u5=none)then
  ∃p6,u5=some p6/\
  ∃u7,qa ro I p6=some (Sl.v u7)/\
  yQ B ro u7 I fun u8 I=>
  Q u8 I
  else
  Q (⟨none,0,0⟩:Sl) I)) I
theorem ajC{a0 a1_0 a1_1 Q}(h:Sep ro I->acy B ro a0 a1_0 a1_1 I Q):jp B ro a0 a1_0 a1_1 I Q:=by
 refine zb h func128 ntmps128 fun h=>?_;unfold acy at h;refine zw ?_;refine zAp (wB rfl rfl) h fun u0 h=>?_;refine AW.seq (AW.seq ?_);refine AW.drawn0 (fun i=>([0,0,0,3,3,2,0]:List Nat).getD i 2) [] [0,1,2,3,4,5,6] mixed j1 ?_
 refine zM h fun p1 h=>?_;refine zg Lq agD ?_;refine zR Lx h fun u2 h=>?_;obtain⟨u3,u4,hc,h⟩:=h
 refine Dr rfl rfl rfl rfl (xS rfl mz rfl wQ rfl hc) ?_
 refine Dg rfl rfl rfl rfl (jB rfl rfl rfl (qj _ h ?_))
 rintro v I ⟨u5,rfl,h⟩;refine zw ?_;refine wH ?_
 refine zw ?_;refine zm (anp rfl LS rfl rfl) ?_;refine zw ?_;refine AW.iff rfl (qp zQ) h (fun h=>?_) (fun h=>?_)
 rotate_left
 .exact zr h
 refine zN h fun p6 h=>?_;refine zf nO ahR ?_;refine zf nK aaI ?_;refine zL ng h fun u7 h=>?_;refine zc func185 h ?_;rintro v I ⟨u8,rfl,h⟩;exact zr h
def pT(B:World)(ro:AH)(Q:Int->AH->Prop)(I:AH):=
 Q 0 I
def aef(B:World)(ro:AH)(a0:Option Addr)(a1_0:ByteArray)(a1_1 a2:Int)(I:AH)(Q:Int->AH->Prop):=
 nw ro I (.cells #[.string a1_0,.int .i64 a1_1] 81) fun u0 I=>
 ∃u1 u2,qe ro I ⟨u0,0,none⟩ 0 [.string u1,.int .i64 u2]/\
 abM B ro a0 u1 u2 I fun u3 u4 I=>
 if(a2<0)\/(u4<a2)then
 Q 161 I
 else
 ∃p5,a0=some p5/\
 ∃u6,qa ro I p5=some (.map u6)/\
 ∃u7 u8,qe ro I ⟨u0,0,none⟩ 0 [.string u7,.int .i64 u8]/\
 awp prog ro (Instr.lookup 243 (.map u6) (.agg #[.string u7,.int .i64 u8]) false) (fun v I=>
 (∃(u9:Option Addr),v= .pointer u9/\
  if¬(u9=none)then
  ∃p10,u9=some p10/\
  aco B ro (some p10) a2 I fun I=>
  pT B ro Q I
  else
  pT B ro Q I)) I
theorem akK{a0 a1_0 a1_1 a2 Q}(h:Sep ro I->aef B ro a0 a1_0 a1_1 a2 I Q):adY B ro a0 a1_0 a1_1 a2 I Q:=by
 refine zb h func129 ntmps129 fun h=>?_;unfold aef at h;refine zw ?_;refine zAp (wB rfl rfl) h fun u0 h=>?_;refine AW.seq ?_;refine zw ?_;obtain⟨u1,u2,hc,h⟩:=h
 refine zl (wg rfl mz rfl wQ rfl hc ?_)
 refine zc func186 h ?_;rintro v I ⟨u3,u4,rfl,h⟩;refine zw ?_;refine wx 4 (decide (a2<0)) [(0,.pointer a0),(2,.int .i64 a2),(4,.pointer (some ⟨u0,0,none⟩)),(22,.bool ((decide (a2<0)) || (decide (u4<a2))))] ?_ ?_ ?_
 .intro e2 hk2
  refine zv e2 ?_;exact hk2 _ (Fe e2)
 .intro e2 hk2
  refine zv e2 ?_;exact hk2 _ (Fe e2)
 intro fr hl
 refine Lfr hl ?_
 refine zw ?_;refine AW.iff rfl (wS me me) h (fun h=>?_) (fun h=>?_)
 .exact zr h
 refine zw ?_;refine AW.seqJ (fun fr I=>ql [] fr/\pT B ro Q I) ?_ ?_
 .rintro fr I ⟨hl,h⟩;refine AW.weaken ?_ hl (HLe.refl _)
  unfold pT at h;exact zr h
 refine AW.seq ?_;refine AW.drawn0 (fun i=>([0,0,0,3,3,2,0]:List Nat).getD i 2) [] [0,1,2,3,4,5,6] mixed j1 ?_
 refine zM h fun p5 h=>?_;refine zg Lq agD ?_;refine zR Lx h fun u6 h=>?_;obtain⟨u7,u8,hc,h⟩:=h
 refine Dr rfl rfl rfl rfl (xS rfl mz rfl wQ rfl hc) ?_
 refine Dg rfl rfl rfl rfl (jB rfl rfl rfl (qj _ h ?_))
 rintro v I ⟨u9,rfl,h⟩;refine zw ?_;refine wH ?_
 refine zw ?_;refine zm (anp rfl LS rfl rfl) ?_;refine zw ?_;refine AW.iff rfl (qp zQ) h (fun h=>?_) (fun h=>?_)
 rotate_left
 .refine zw ?_;exact⟨FL,h⟩
 refine zN h fun p10 h=>?_;refine zf nO ahR ?_;refine zc func187 h ?_;rintro v I ⟨rfl,h⟩;refine zw ?_;exact⟨FL,h⟩
def aai(B:World)(ro:AH)(Q:Int->AH->Prop)(u0:Int)(I:AH):=
 Q u0 I
def aaj(B:World)(ro:AH)(a2:Int)(p0:Addr)(u1:Nat)(Q:Int->AH->Prop):Int->AH->(Int->AH->Prop)->Prop:=fun u2 I Y7=>
 awp prog ro (Instr.next (.pointer (some p0)) false 0) (fun v I=>
 (v= .tuple #[.bool false]/\
  aai B ro Q u2 I)\/
 (∃(u3:Value) (u4:Value),v= .tuple #[.bool true,u3,u4]/\
  awp prog ro (Instr.entry (.pointer (some p0))) (fun v I=>
  (∃(u5:Value) (u6:Option Addr),v= .tuple #[u5,.pointer u6]/\
   ∃p7,u6=some p7/\
   ∃u8,qa ro I (p7.add 3)=some (.map u8)/\
   ∃u9 u10,qe ro I ⟨u1,0,none⟩ 0 [.string u9,.int .i64 u10]/\
   awp prog ro (Instr.lookup 308 (.map u8) (.agg #[.string u9,.int .i64 u10]) false) (fun v I=>
   (∃(u11:Int),v= .int .i64 u11/\
    if 0<u11 then
    ∃p12,u6=some p12/\
    ∃u13,qa ro I (p12.add 3)=some (.map u13)/\
    ∃u14 u15,qe ro I ⟨u1,0,none⟩ 0 [.string u14,.int .i64 u15]/\
    awp prog ro (Builtin.delete_ #[308,314] 0 #[.map u13,.agg #[.string u14,.int .i64 u15]]) (fun v I=>v= .tuple #[]/\
     ∃p16,u6=some p16/\
     ∃u17,qa ro I ⟨u1,0,none⟩=some (.string u17)/\
     acq B ro (some p16) a2 u17 I fun I=>
     Y7 (i64.wrap (u2+1)) I) I
    else
    Y7 (u2) I)) I)) I)) I
def adv(B:World)(ro:AH)(a0:Option Addr)(a1_0:ByteArray)(a1_1 a2:Int)(I:AH)(Q:Int->AH->Prop):=
 nw ro I (.cells #[.string a1_0,.int .i64 a1_1] 314) fun u0 I=>
 ∃p1,a0=some p1/\
 ∃u2,qa ro I p1=some (.map u2)/\
 awp prog ro (Instr.range 243 (.map u2)) (fun v I=>
 (∃(p3:Addr),v= .pointer (some p3)/\
  lfpD (aaj B ro a2 p3 u0 Q) (0) I)) I
theorem akd{a0 a1_0 a1_1 a2 Q}(h:Sep ro I->adv B ro a0 a1_0 a1_1 a2 I Q):pL B ro a0 a1_0 a1_1 a2 I Q:=by
 refine zb h func181 ntmps181 fun h=>?_;unfold adv at h;refine zw ?_;refine zAp (wB rfl rfl) h fun u0 h=>?_;refine AW.seqJ (fun fr I=> ∃(u1:Int),ql [(7,.int .i64 u1)] fr/\aai B ro Q u1 I) ?_ ?_
 .rintro fr I ⟨u1,hl,h⟩;refine AW.weaken ?_ hl (HLe.refl _)
  unfold aai at h;exact zr h
 refine zN h fun p2 h=>?_;refine zf Lq agD ?_;refine zL Lx h fun u3 h=>?_;refine zl (anr rfl rfl (qj _ h ?_))
 rintro v I ⟨p4,rfl,h⟩;refine zw ?_;refine qi.loop (fr':=[(2,.int .i64 a2),(4,.pointer (some ⟨u0,0,none⟩)),(14,.pointer (some p4)),(7,.int .i64 0)]) ?_ FL
 refine h (fun u5 I=>qi _ _ _ _ _ _ [(2,.int .i64 a2),(4,.pointer (some ⟨u0,0,none⟩)),(14,.pointer (some p4)),(7,.int .i64 u5)] I) ?_
 rintro u5 I Y7 hY7 h
 show AW _ _ _ _ _ _ _ _
 unfold aaj at h;refine zw ?_;refine zl (ans rfl rfl rfl (qj _ h ?_))
 rintro v I (⟨rfl,h⟩ | ⟨u6,u7,rfl,h⟩)
 .refine zw ?_;refine AW.seq ?_;refine AW.no rfl ?_;refine AW.exit ?_;refine zw ?_;refine qT ?_
  refine zw ?_;exact⟨_,FL,h⟩
 .refine zw ?_;refine AW.seq ?_;refine AW.yes rfl ?_;refine zw ?_;refine zl (apR rfl rfl (qj _ h ?_))
  rintro v I ⟨u8,u9,rfl,h⟩;refine zw ?_;refine AW.seq ?_;refine AW.drawn0 (fun i=>([0,0,0,3,3,2,0]:List Nat).getD i 2) [] [0,1,2,3,4,5,6] mixed j1 ?_
  refine zM h fun p10 h=>?_;refine zg nO ajM ?_;refine zR LM h fun u11 h=>?_;obtain⟨u12,u13,hc,h⟩:=h
  refine Dr rfl rfl rfl rfl (xS rfl nC rfl adU rfl hc) ?_
  refine Dg rfl rfl rfl rfl (jB rfl rfl rfl (qj _ h ?_))
  rintro v I ⟨u14,rfl,h⟩;refine zw ?_;refine wH ?_
  refine zi h (fun h=>?_) fun h=>?_
  rotate_left
  .refine zw ?_;refine qi.head (fr':=[(2,.int .i64 a2),(4,.pointer (some ⟨u0,0,none⟩)),(14,.pointer (some p4)),(7,.int .i64 u5)]) ?_ FL
   exact hY7 _ _ h
  refine AW.seq ?_;refine AW.drawn0 (fun i=>([0,0,0,3,3,2]:List Nat).getD i 2) [] [0,1,2,3,4,5] mixed j1 ?_
  refine zM h fun p15 h=>?_;refine zg nO ajM ?_;refine zR LM h fun u16 h=>?_;obtain⟨u17,u18,hc,h⟩:=h
  refine Dr rfl rfl rfl rfl (xS rfl nC rfl adU rfl hc) ?_
  refine Dg rfl rfl rfl rfl (kP (s:=Builtin.delete_ #[308,314] 0 #[.map u16,.agg #[.string u17,.int .i64 u18]]) rfl rfl (fun _=>rfl) (qj _ h ?_))
  rintro v I ⟨rfl,h⟩;refine wH ?_
  refine zw ?_;refine AW.seq ?_;refine AW.drawn0 (fun i=>([0,0,0,0,0,3,2]:List Nat).getD i 2) [] [0,1,2,3,4,5,6] mixed j1 ?_
  refine zM h fun p19 h=>?_;refine zg nO ahR ?_;refine zg nC ty9 ?_;refine zR mj h fun u20 h=>?_;refine zG func222 h ?_;rintro v I ⟨rfl,h⟩;refine wH ?_
  refine zw ?_;refine qi.head (fr':=[(2,.int .i64 a2),(4,.pointer (some ⟨u0,0,none⟩)),(14,.pointer (some p4)),(7,.int .i64 (i64.wrap (u5+1)))]) ?_ FL
  exact hY7 _ _ h
def ab2(B:World)(ro:AH)(a0:Option Addr)(a1_0:ByteArray)(a1_1:Int)(I:AH)(Q:Int->Int->AH->Prop):=
 nw ro I (.cells #[.string a1_0,.int .i64 a1_1] 81) fun u0 I=>
 ∃p1,a0=some p1/\
 ∃u2,qa ro I p1=some (.map u2)/\
 ∃u3 u4,qe ro I ⟨u0,0,none⟩ 0 [.string u3,.int .i64 u4]/\
 awp prog ro (Instr.lookup 243 (.map u2) (.agg #[.string u3,.int .i64 u4]) false) (fun v I=>
 (∃(u5:Option Addr),v= .pointer u5/\
  if¬(u5=none)then
  ∃p6,u5=some p6/\
  ∃p7,u5=some p7/\
  ∃u8,qa ro I (p6.add 1)=some (.int .i64 u8)/\
  ∃u9,qa ro I (p7.add 2)=some (.int .i64 u9)/\
  Q u8 u9 I
  else
  Q 0 0 I)) I
theorem aiT{a0 a1_0 a1_1 Q}(h:Sep ro I->ab2 B ro a0 a1_0 a1_1 I Q):abM B ro a0 a1_0 a1_1 I Q:=by
 refine zb h func186 ntmps186 fun h=>?_;unfold ab2 at h;refine zw ?_;refine zAp (wB rfl rfl) h fun u0 h=>?_;refine AW.seq (AW.seq ?_);refine AW.drawn0 (fun i=>([0,0,0,3,3,2,0]:List Nat).getD i 2) [] [0,1,2,3,4,5,6] mixed j1 ?_
 refine zM h fun p1 h=>?_;refine zg Lq agD ?_;refine zR Lx h fun u2 h=>?_;obtain⟨u3,u4,hc,h⟩:=h
 refine Dr rfl rfl rfl rfl (xS rfl mz rfl wQ rfl hc) ?_
 refine Dg rfl rfl rfl rfl (jB rfl rfl rfl (qj _ h ?_))
 rintro v I ⟨u5,rfl,h⟩;refine zw ?_;refine wH ?_
 refine zw ?_;refine zm (anp rfl LS rfl rfl) ?_;refine zw ?_;refine AW.iff rfl (qp zQ) h (fun h=>?_) (fun h=>?_)
 rotate_left
 .exact zrr h
 refine AW.seq ?_;refine AW.drawn0 (fun i=>([0,0,0,0,3,0,0,0,0,3,0,0]:List Nat).getD i 2) [] [0,1,2,3,5,6,7,8,4,10,9,11] mixed j1 ?_
 refine zM h fun p6 h=>?_;refine zg nO ahR ?_;refine zg nK ty3 ?_;refine zM h fun p7 h=>?_;refine zg nO ahR ?_;refine zg nK ty3 ?_;refine zR mf h fun u8 h=>?_;refine zR mf h fun u9 h=>?_;refine zw ?_;refine wH ?_
 exact zrr h
def acz(B:World)(ro:AH)(a0:Option Addr)(a1:Int)(I:AH)(Q:AH->Prop):=
 nw ro I (.cells #[.int .i64 a1] 3) fun u0 I=>
 ∃p1,a0=some p1/\
 ∃u2,qa ro I (p1.add 1)=some (.int .i64 u2)/\
 ∃u3,qa ro I ⟨u0,0,none⟩=some (.int .i64 u3)/\
 ∃p4,a0=some p4/\
 stN (p4.add 1) (fun I=>
 ∃p5,a0=some p5/\
 ∃u6,qa ro I p5=some (Sl.v u6)/\
 xU B ro u6 (.func (.func 233) #[] #[.pointer (some ⟨u0,0,none⟩)]) I fun u7 I=>
 ∃p8,a0=some p8/\
 stN p8 (fun I=>
  Q I) [Sl.v u7] 0 I) [.int .i64 (if u2<u3 then u3 else u2)] 0 I
theorem ajD{a0 a1 Q}(h:Sep ro I->acz B ro a0 a1 I Q):aco B ro a0 a1 I Q:=by
 refine zb h func187 ntmps187 fun h=>?_;unfold acz at h;refine zw ?_;refine zAp (wB rfl rfl) h fun u0 h=>?_;refine AW.seq ?_;refine AW.drawn0 (fun i=>([0,0,0,0,3,3,0,0,0,2]:List Nat).getD i 2) [] [0,1,2,3,4,5,6,7,8,9] mixed j1 ?_
 refine zM h fun p1 h=>?_;refine zg nK ty3 ?_;refine zR mf h fun u2 h=>?_;refine zR mf h fun u3 h=>?_;refine Dp rfl rfl rfl rfl (aqU rfl rfl) ?_
 refine zM h fun p4 h=>?_;refine zg nK ty3 ?_;refine Dg rfl rfl rfl rfl (pI rfl ty3 rfl rfl rfl rfl (zH h fun I h=>?_))
 refine wH ?_
 refine zN h fun p5 h=>?_;refine zf nK aaI ?_;refine zL ng h fun u6 h=>?_;refine zm (apQ rfl rfl rfl) ?_;refine zc func232 h ?_;rintro v I ⟨u7,rfl,h⟩;refine zN h fun p8 h=>?_;refine zf nK aaI ?_;refine zsp aaI h fun I h=>?_;exact bN0 results187 ⟨rfl,h⟩
def yM(B:World)(ro:AH)(Q:Int->AH->Prop)(u0:Bool)(I:AH):=
 if u0=true then
 Q 82 I
 else
 Q 0 I
def jm(B:World)(ro:AH)(u0:Nat)(Q:Int->AH->Prop)(u1:Bool)(I:AH):=
 if u1=true then
 yM B ro Q true I
 else
 ∃u2,qa ro I ((⟨u0,0,none⟩:Addr).add 1)=some (.int .i64 u2)/\
 yM B ro Q (decide (4611686018427387903<u2)) I
def yN(B:World)(ro:AH)(u0:Nat)(Q:Int->AH->Prop)(u1:Bool)(I:AH):=
 if u1=true then
 jm B ro u0 Q true I
 else
 ∃u2,qa ro I ((⟨u0,0,none⟩:Addr).add 1)=some (.int .i64 u2)/\
 jm B ro u0 Q (decide (u2<1)) I
def yb(B:World)(ro:AH)(u0:Nat)(u1:ByteArray)(u2:Int)(Q:Int->AH->Prop)(u3:Bool)(I:AH):=
 if u3=true then
 Q 160 I
 else
 if¬(u2=0)then
 Q u2 I
 else
 ∃u4,qa ro I ⟨u0,0,none⟩=some (.string u4)/\
 if¬(u1=u4)then
 yN B ro u0 Q true I
 else
 ∃u5,qa ro I ⟨u0,0,none⟩=some (.string u5)/\
 pq B ro u5 I fun u6 I=>
 yN B ro u0 Q (!u6) I
def afu(B:World)(ro:AH)(a0_0:ByteArray)(a0_1:Int)(a1_0:ByteArray)(a1_1:Int)(I:AH)(Q:Int->AH->Prop):=
 nw ro I (.cells #[.string a0_0,.int .i64 a0_1] 81) fun u0 I=>
 nw ro I (.cells #[.string a1_0,.int .i64 a1_1] 314) fun u1 I=>
 ∃u2,qa ro I ⟨u1,0,none⟩=some (.string u2)/\
 po B ro u2 I fun u3 u4 I=>
 ∃u5,qa ro I ((⟨u1,0,none⟩:Addr).add 1)=some (.int .i64 u5)/\
 if¬(u5=1)then
 ∃u6,qa ro I ((⟨u1,0,none⟩:Addr).add 1)=some (.int .i64 u6)/\
 yb B ro u0 u3 u4 Q (!(decide (u6=2))) I
 else
 yb B ro u0 u3 u4 Q false I
theorem amj{a0_0 a0_1 a1_0 a1_1 Q}(h:Sep ro I->afu B ro a0_0 a0_1 a1_0 a1_1 I Q):afc B ro a0_0 a0_1 a1_0 a1_1 I Q:=by
 refine zb h func221 ntmps221 fun h=>?_;unfold afu at h;refine zw ?_;refine zA (wB rfl rfl) h fun u0 h=>?_;refine zA (wB rfl rfl) h fun u1 h=>?_;refine zf nC ty9 ?_;refine zL mj h fun u2 h=>?_;refine zc func81 h ?_;rintro v I ⟨u3,u4,rfl,h⟩;refine zw ?_;refine AW.seq ?_;refine zf nC ty3 ?_;refine zLp mf h fun u5 h=>?_;refine qE 4 (!(decide (u5=1))) (qp me) h (fun fr I=> ∃(u6:Bool),ql [(2,.pointer (some ⟨u0,0,none⟩)),(5,.string u3),(6,.int .i64 u4),(21,.bool u6)] fr/\yb B ro u0 u3 u4 Q u6 I) ?_ ?_ ?_
 .intro h e3 hk3;refine qH (qX rfl nC rfl ty3 y0 rfl) rfl rfl rfl rfl e3 ?_
  obtain⟨u7,hc,h⟩:=h
  refine Lyb rfl rfl rfl rfl e3 (vR rfl mf rfl rfl hc ?_)
  refine zv e3 ?_;exact hk3 _ _ ⟨_,FL,h⟩
 .intro h e3 hk3;refine zv e3 ?_;exact hk3 _ _ ⟨_,FL,h⟩
 rintro fr I ⟨u6,hl,h⟩;unfold yb at h;refine Lfr hl ?_
 refine zj h (fun h=>?_) fun h=>?_
 .exact zr h
 refine zw ?_;refine AW.iff rfl (qp me) h (fun h=>?_) (fun h=>?_)
 .exact zr h
 refine zf mz ty9 ?_;refine zL mj h fun u8 h=>?_;refine zm (ak1 rfl rfl rfl) ?_;refine zw ?_;refine qE 5 (!(decide (u3=u8))) (qp me) h (fun fr I=> ∃(u9:Bool),ql [(2,.pointer (some ⟨u0,0,none⟩)),(36,.bool u9)] fr/\yN B ro u0 Q u9 I) ?_ ?_ ?_
 .intro h e4 hk4;refine zv e4 ?_;exact hk4 _ _ ⟨_,FL,h⟩
 .intro h e4 hk4;refine qH (qX rfl mz rfl ty9 y0 rfl) rfl rfl rfl rfl e4 ?_
  obtain⟨u10,hc,h⟩:=h
  refine Lyb rfl rfl rfl rfl e4 (vR rfl mj rfl rfl hc ?_)
  refine Lyb rfl rfl rfl rfl e4 (xp rfl func99 rfl rfl rfl (qc.mono h ?_))
  rintro v I ⟨u11,rfl,h⟩;refine zv e4 ?_;exact hk4 _ _ ⟨_,FL,h⟩
 rintro fr I ⟨u9,hl,h⟩;unfold yN at h;refine Lfr hl ?_
 refine zw ?_;refine qE 4 u9 Iff.rfl h (fun fr I=> ∃(u12:Bool),ql [(2,.pointer (some ⟨u0,0,none⟩)),(41,.bool u12)] fr/\jm B ro u0 Q u12 I) ?_ ?_ ?_
 .intro h e10 hk10;refine zv e10 ?_;exact hk10 _ _ ⟨_,FL,h⟩
 .intro h e10 hk10;refine qH (qX rfl mz rfl ty3 y0 rfl) rfl rfl rfl rfl e10 ?_
  obtain⟨u13,hc,h⟩:=h
  refine Lyb rfl rfl rfl rfl e10 (vR rfl mf rfl rfl hc ?_)
  refine zv e10 ?_;exact hk10 _ _ ⟨_,FL,h⟩
 rintro fr I ⟨u12,hl,h⟩;unfold jm at h;refine Lfr hl ?_
 refine zw ?_;refine qE 4 u12 Iff.rfl h (fun fr I=> ∃(u14:Bool),ql [(46,.bool u14)] fr/\yM B ro Q u14 I) ?_ ?_ ?_
 .intro h e15 hk15;refine zv e15 ?_;exact hk15 _ _ ⟨_,FL,h⟩
 .intro h e15 hk15;refine qH (qX rfl mz rfl ty3 y0 rfl) rfl rfl rfl rfl e15 ?_
  obtain⟨u15,hc,h⟩:=h
  refine Lyb rfl rfl rfl rfl e15 (vR rfl mf rfl rfl hc ?_)
  refine zv e15 ?_;exact hk15 _ _ ⟨_,FL,h⟩
 rintro fr I ⟨u14,hl,h⟩;unfold yM at h;refine Lfr hl ?_
 refine zj h (fun h=>?_) fun h=>?_
 .exact zr h
 exact zr h
def acA(B:World)(ro:AH)(a0:Option Addr)(a1:Int)(a2:ByteArray)(I:AH)(Q:AH->Prop):=
 ∃p0,a0=some p0/\
 ∃u1,qa ro I (p0.add 2)=some (.int .i64 u1)/\
 ∃p2,a0=some p2/\
 stN (p2.add 2) (fun I=>
 ∃p3,a0=some p3/\
 ∃p4,a0=some p4/\
 ∃u5,qa ro I p3=some (Sl.v u5)/\
 ∃u6,qa ro I (p4.add 2)=some (.int .i64 u6)/\
 nw ro I (.cells #[.int .i64 u6,.int .i64 a1,.string a2] 132) fun u7 I=>
 awp prog ro (Builtin.append_ #[28,28] 28 #[Sl.v u5,Sl.v (⟨some ⟨u7,0,none⟩,1,1⟩:Sl)]) (fun v I=> ∃(u8:Sl),v=Sl.v u8/\
  ∃p9,a0=some p9/\
  stN p9 (fun I=>
  Q I) [Sl.v u8] 0 I) I) [.int .i64 (i64.wrap (u1+1))] 0 I
theorem ajE{a0 a1 a2 Q}(h:Sep ro I->acA B ro a0 a1 a2 I Q):acq B ro a0 a1 a2 I Q:=by
 refine zb h func222 ntmps222 fun h=>?_;unfold acA at h;refine zN h fun p0 h=>?_;refine zf nK ty3 ?_;refine zL mf h fun u1 h=>?_;refine zN h fun p2 h=>?_;refine zf nK ty3 ?_;refine zsp ty3 h fun I h=>?_;refine AW.drawn0 (fun i=>([0,0,0,0,3,0,0,0,3,0,0,0,1,2,0,0,2]:List Nat).getD i 2) [(8,11),(8,12),(8,13)] [0,1,2,3,5,6,7,9,10,4,8,11,12,13,14,15,16] mixed j1 ?_
 refine zM h fun p3 h=>?_;refine zg nK aaI ?_;refine zM h fun p4 h=>?_;refine zg nK ty3 ?_;refine zR ng h fun u5 h=>?_;refine zR mf h fun u6 h=>?_;refine Dp rfl rfl rfl rfl (wD (vs:=[(0,.int .i64 u6),(1,.int .i64 a1),(2,.string a2)]) (cs:= #[.int .i64 u6,.int .i64 a1,.string a2]) rfl nR yd atP rfl rfl) ?_
 refine Da rfl rfl rfl rfl (zo (vs:=[(0,.agg #[.int .i64 u6,.int .i64 a1,.string a2])]) (cs:= #[.int .i64 u6,.int .i64 a1,.string a2]) rfl ng yd y0 rfl rfl) fun u7 g1 g2=>?_
 replace h:=h u7 g1 g2
 refine Dg rfl rfl rfl rfl (kP (s:=Builtin.append_ #[28,28] 28 #[Sl.v u5,Sl.v (⟨some ⟨u7,0,none⟩,1,1⟩:Sl)]) rfl rfl (fun _=>rfl) (qj _ h ?_))
 rintro v I ⟨u8,rfl,h⟩;refine zM h fun p9 h=>?_;refine zg nK aaI ?_;refine Dg rfl rfl rfl rfl (pI rfl aaI rfl rfl rfl rfl (zH h fun I h=>?_))
 refine wH ?_
 exact bN0 results222 ⟨rfl,h⟩
def aa6(B:World)(ro:AH)(a0_0 a0_1:Int)(a0_2:ByteArray)(a1:Addr)(I:AH)(Q:Bool->AH->Prop):=
 nw ro I (.cells #[.int .i64 a0_0,.int .i64 a0_1,.string a0_2] 132) fun u0 I=>
 ∃u1,qa ro I ⟨u0,0,none⟩=some (.int .i64 u1)/\
 ∃u2,qa ro I a1=some (.int .i64 u2)/\
 Q (decide (u1<=u2)) I
theorem ahD{a0_0 a0_1 a0_2 a1 Q}(h:Sep ro I->aa6 B ro a0_0 a0_1 a0_2 a1 I Q):ad0 B ro a0_0 a0_1 a0_2 a1 I Q:=by
 refine zb h func233 ntmps233 fun h=>?_;unfold aa6 at h;refine zw ?_;refine zA (wB rfl rfl) h fun u0 h=>?_;refine zf nR ty3 ?_;refine zL mf h fun u1 h=>?_;refine zL mf h fun u2 h=>?_;exact zr h
def jw(B:World)(ro:AH)(a0:Option Addr)(u0 u1:Nat)(u2:Option Addr)(Q:Int->AH->Prop)(u3:Bool)(I:AH):=
 if u3=true then
 Q 61 I
 else
 ∃p4,u2=some p4/\
 ∃u5,qa ro I (p4.add 3)=some (.map u5)/\
 ∃u6 u7,qe ro I ⟨u1,0,none⟩ 0 [.string u6,.int .i64 u7]/\
 awp prog ro (Instr.mapUpdate 308 (.map u5) (.agg #[.string u6,.int .i64 u7]) (.int .i64 1)) (fun _ I=>
 ∃p8,a0=some p8/\
 ∃u9,qa ro I p8=some (.map u9)/\
 ∃u10 u11,qe ro I ⟨u0,0,none⟩ 0 [.string u10,.int .i64 u11]/\
 awp prog ro (Instr.mapUpdate 243 (.map u9) (.agg #[.string u10,.int .i64 u11]) (.pointer u2)) (fun _ I=>
  Q 0 I) I) I
def jx(B:World)(ro:AH)(a0:Option Addr)(u0 u1:Nat)(Q:Int->AH->Prop)(u2:Option Addr)(I:AH):=
 uh I fun ψ I=>
 ∃p3,u2=some p3/\
 ∃u4,qa (join ro ψ) I (p3.add 3)=some (.map u4)/\
 ∃u5 u6,qe (join ro ψ) I ⟨u1,0,none⟩ 0 [.string u5,.int .i64 u6]/\
 awp prog (join ro ψ) (Instr.lookup 308 (.map u4) (.agg #[.string u5,.int .i64 u6]) false) (fun v I=>
  (∃(u7:Int),v= .int .i64 u7/\
  if u7=0 then
   ∃p8,u2=some p8/\
   ∃p9,u2=some p9/\
   ∃u10,qa (join ro ψ) (fun _=>none) p9=some (Sl.v u10)/\
   ∃u11,qa (join ro ψ) I (p8.add 3)=some (.map u11)/\
   awp prog (join ro ψ) (Builtin.len_ #[308] 3 #[.map u11]) (fun v I=> ∃(u12:Int),v= .int .i64 u12/\
   (qJ ψ I->(fun I=>
    jw B ro a0 u0 u1 u2 Q (decide (32<=(i64.wrap (u12+(u10.len:Int))))) I) (join ψ I))) I
  else
  (qJ ψ I->(fun I=>
   jw B ro a0 u0 u1 u2 Q false I) (join ψ I)))) I
def aeg(B:World)(ro:AH)(a0:Option Addr)(a1_0:ByteArray)(a1_1 a2:Int)(a3:ByteArray)(I:AH)(Q:Int->AH->Prop):=
 nw ro I (.cells #[.string a1_0,.int .i64 a1_1] 81) fun u0 I=>
 nw ro I (.cells #[.string ByteArray.empty,.int .i64 0] 314) fun u1 I=>
 stN ⟨u1,0,none⟩ (fun I=>
 ∃u2 u3,qe ro I ⟨u0,0,none⟩ 0 [.string u2,.int .i64 u3]/\
 ∃u4 u5,qe ro I ⟨u1,0,none⟩ 0 [.string u4,.int .i64 u5]/\
 afc B ro u2 u3 u4 u5 I fun u6 I=>
 if¬(u6=0)then
  Q u6 I
 else
 ∃p7,a0=some p7/\
 ∃u8,qa ro I p7=some (.map u8)/\
 ∃u9 u10,qe ro I ⟨u0,0,none⟩ 0 [.string u9,.int .i64 u10]/\
 awp prog ro (Instr.lookup 243 (.map u8) (.agg #[.string u9,.int .i64 u10]) false) (fun v I=>
  (∃(u11:Option Addr),v= .pointer u11/\
  if u11=none then
   nw ro I (.map #[] 0) fun u12 I=>
   nw ro I (.cells #[Sl.v (⟨none,0,0⟩:Sl),.int .i64 0,.int .i64 0,.map (some u12)] 310) fun u13 I=>
   jx B ro a0 u0 u1 Q (some ⟨u13,0,none⟩) I
  else
  jx B ro a0 u0 u1 Q u11 I)) I) [.string a3,.int .i64 a2] 0 I
theorem akL{a0 a1_0 a1_1 a2 a3 Q}(h:Sep ro I->aeg B ro a0 a1_0 a1_1 a2 a3 I Q):uz B ro a0 a1_0 a1_1 a2 a3 I Q:=by
 refine zb h func236 ntmps236 fun h=>?_;unfold aeg at h;refine zw ?_;refine zAp (wB rfl rfl) h fun u0 h=>?_;refine zm (wD (vs:=[(0,.string a3),(1,.int .i64 a2)]) (cs:= #[.string a3,.int .i64 a2]) rfl nC adU anx rfl rfl) ?_;refine zA (qM rfl adU) h fun u1 h=>?_;refine zsp adU h fun I h=>?_;refine AW.seq ?_;refine zw ?_;obtain⟨u2,u3,hc,h⟩:=h
 refine zl (wg rfl mz rfl wQ rfl hc ?_)
 obtain⟨u4,u5,hc,h⟩:=h
 refine zl (wg rfl nC rfl adU rfl hc ?_)
 refine zC func221 h fun u6 I h=>?_;refine AW.iff rfl (qp me) h (fun h=>?_) (fun h=>?_)
 .exact zr h
 refine zw ?_;refine AW.seq ?_;refine AW.drawn0 (fun i=>([0,0,0,3,3,2,0]:List Nat).getD i 2) [] [0,1,2,3,4,5,6] mixed j1 ?_
 refine zM h fun p7 h=>?_;refine zg Lq agD ?_;refine zR Lx h fun u8 h=>?_;obtain⟨u9,u10,hc,h⟩:=h
 refine Dr rfl rfl rfl rfl (xS rfl mz rfl wQ rfl hc) ?_
 refine Dg rfl rfl rfl rfl (jB rfl rfl rfl (qj _ h ?_))
 rintro v I ⟨u11,rfl,h⟩;refine zw ?_;refine wH ?_
 refine zw ?_;refine AW.seqJ (fun fr I=> ∃(u12:Option Addr),ql [(0,.pointer a0),(5,.pointer (some ⟨u0,0,none⟩)),(9,.pointer (some ⟨u1,0,none⟩)),(11,.pointer u12)] fr/\jx B ro a0 u0 u1 Q u12 I) ?_ ?_
 rotate_left
 .refine zw ?_;refine zm (aeC rfl LS rfl rfl) ?_;refine zw ?_;refine AW.iff rfl zQ h (fun h=>?_) (fun h=>?_)
  rotate_left
  .refine zw ?_;exact⟨_,FL,h⟩
  refine zw ?_;refine zA (ahj rfl) h fun u13 h=>?_;refine zm (wD (vs:=[(1,.map (some u13))]) (cs:= #[Sl.v (⟨none,0,0⟩:Sl),.int .i64 0,.int .i64 0,.map (some u13)]) rfl nO avI avS rfl rfl) ?_;refine zAp (wB rfl rfl) h fun u14 h=>?_;exact⟨_,FL,h⟩
 rintro fr I ⟨u12,hl,h⟩;refine AW.weaken ?_ hl (HLe.refl _)
 unfold jx at h;refine AW.seq ?_;refine AW.seqJ (fun fr I=> ∃(u15:Bool),ql [(0,.pointer a0),(5,.pointer (some ⟨u0,0,none⟩)),(9,.pointer (some ⟨u1,0,none⟩)),(11,.pointer u12),(53,.bool u15)] fr/\jw B ro a0 u0 u1 u12 Q u15 I) ?_ ?_
 .rintro fr I ⟨u15,hl,h⟩;refine AW.weaken ?_ hl (HLe.refl _)
  unfold jw at h;refine zj h (fun h=>?_) fun h=>?_
  .exact zr h
  refine zw ?_;refine AW.seq ?_;refine AW.drawn0 (fun i=>([0,0,0,3,3,2]:List Nat).getD i 2) [] [0,1,2,3,4,5] mixed j1 ?_
  refine zM h fun p16 h=>?_;refine zg nO ajM ?_;refine zR LM h fun u17 h=>?_;obtain⟨u18,u19,hc,h⟩:=h
  refine Dr rfl rfl rfl rfl (xS rfl nC rfl adU rfl hc) ?_
  refine Dg rfl rfl rfl rfl (agz (.inl rfl) rfl rfl rfl (qj _ h ?_))
  rintro _ I h
  refine wH ?_
  refine zw ?_;refine AW.seq ?_;refine AW.drawn0 (fun i=>([0,0,0,3,3,0,2]:List Nat).getD i 2) [] [0,1,2,5,3,4,6] mixed j1 ?_
  refine zM h fun p20 h=>?_;refine zg Lq agD ?_;refine zR Lx h fun u21 h=>?_;obtain⟨u22,u23,hc,h⟩:=h
  refine Dr rfl rfl rfl rfl (xS rfl mz rfl wQ rfl hc) ?_
  refine Dg rfl rfl rfl rfl (agz (.inl rfl) rfl rfl rfl (qj _ h ?_))
  rintro _ I h
  refine wH ?_
  exact zr h
 refine AW.drawnL (fun i=>([0,0,0,3,3,2,0,0,0,0,0,3,2,0,0,0,0,0,0,0,0,0]:List Nat).getD i 2) [(3,5),(3,6),(3,7),(3,8),(3,9),(3,10),(3,11),(3,12),(4,5),(4,6),(4,7),(4,8),(4,9),(4,10),(4,11),(4,12),(5,6),(5,7),(5,8),(5,9),(5,10),(5,11),(5,12)] [0,1,2,3,4,5,6,7,8,9,10,13,14,15,16,17,18,11,12,19,20,21] mixed h j1 ?_
 clear h
 intro ψ I h
 refine zM h fun p24 h=>?_;refine zg nO ajM ?_;refine zR LM h fun u25 h=>?_;obtain⟨u26,u27,hc,h⟩:=h
 refine Dr rfl rfl rfl rfl (xS rfl nC rfl adU rfl hc) ?_
 refine Dg rfl rfl rfl rfl (jB rfl rfl rfl (qj _ h ?_))
 rintro v I ⟨u28,rfl,h⟩;refine zw ?_;refine afS (decide (u28=0)) me h ?_ ?_
 rotate_left
 .intro h e7
  refine Dpn rfl rfl rfl rfl rfl (.inl (by rw[e7];try rfl)) rfl ?_
  refine Dpn rfl rfl rfl rfl rfl (.inl (by rw[e7];try rfl)) rfl ?_
  refine Dpn rfl rfl rfl rfl rfl (.inl (by rw[e7];try rfl)) rfl ?_
  refine Dpn rfl rfl rfl rfl rfl (.inl (by rw[e7];try rfl)) rfl ?_
  refine Dpn rfl rfl rfl rfl rfl (.inl (by rw[e7];try rfl)) rfl ?_
  refine Dpn rfl rfl rfl rfl rfl (.inl (by rw[e7];try rfl)) rfl ?_
  refine Dpn rfl rfl rfl rfl rfl (.inl (by rw[e7];try rfl)) rfl ?_
  refine Dpn rfl rfl rfl rfl rfl (.inl (by rw[e7];try rfl)) rfl ?_
  refine Dpn rfl rfl rfl rfl rfl (.inl (by rw[e7];try rfl)) rfl ?_
  refine Drn rfl rfl rfl rfl rfl (.inl (by rw[e7];try rfl)) rfl ?_
  refine Dgn rfl rfl rfl rfl rfl (.inl (by rw[e7];try rfl)) rfl ?_
  refine Dpn rfl rfl rfl rfl rfl (.inl (by rw[e7];try rfl)) rfl ?_
  refine Dpn rfl rfl rfl rfl rfl (.inl (by rw[e7];try rfl)) rfl ?_
  refine Dp rfl rfl rfl rfl (yH rfl (evb e7) rfl) ?_
  refine⟨_,ze.refl _,fun hdj=>?_⟩
  replace h:=h hdj
  refine zw ?_;exact⟨_,FL,h⟩
 intro h e7
 refine Dpy rfl rfl rfl rfl rfl e7 rfl (jL rfl rfl) ?_
 obtain⟨p29,hc,h⟩:=h
 refine Dpy rfl rfl rfl rfl rfl e7 rfl (kO rfl (by rw[<-hc];try rfl)) ?_
 refine Dpy rfl rfl rfl rfl rfl e7 rfl (qX rfl nO rfl ajM y0 rfl) ?_
 refine Dpy rfl rfl rfl rfl rfl e7 rfl (jL rfl rfl) ?_
 obtain⟨p30,hc,h⟩:=h
 refine Dpy rfl rfl rfl rfl rfl e7 rfl (kO rfl (by rw[<-hc];try rfl)) ?_
 refine Dpy rfl rfl rfl rfl rfl e7 rfl (qX rfl nO rfl ahR y0 rfl) ?_
 refine Dpy rfl rfl rfl rfl rfl e7 rfl (qX rfl nK rfl aaI y0 rfl) ?_
 obtain⟨u31,hc,h⟩:=h
 refine Dpy rfl rfl rfl rfl rfl e7 rfl (auX rfl ng rfl rfl hc) ?_
 refine Dpy rfl rfl rfl rfl rfl e7 rfl (qA rfl rfl ng rfl rfl) ?_
 obtain⟨u32,hc,h⟩:=h
 refine Dry rfl rfl rfl rfl rfl e7 rfl (agR rfl LM rfl rfl hc) ?_
 refine Dgy rfl rfl rfl rfl rfl e7 rfl (kP (s:=Builtin.len_ #[308] 3 #[.map u32]) rfl rfl (fun _=>rfl) (qj _ h ?_))
 rintro v I ⟨u33,rfl,h⟩;refine Dpy rfl rfl rfl rfl rfl e7 rfl (ann rfl rfl rfl) ?_
 refine Dpy rfl rfl rfl rfl rfl e7 rfl (anm rfl rfl rfl) ?_
 refine Dp rfl rfl rfl rfl (jT rfl (evb e7) rfl) ?_
 refine⟨_,ze.refl _,fun hdj=>?_⟩
 replace h:=h hdj
 refine zw ?_;exact⟨_,FL,h⟩