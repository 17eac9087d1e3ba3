import Derived.Test.YtomdigihapdhnaaGreatDoorXK
set_option linter.all false
set_option maxRecDepth 99999
set_option maxHeartbeats 0
open Go.IntKind(i64)
open Go.Proofs.Tryz
namespace Go.Proofs.YtomdigihapdhnaaGreatDoor
namespace Zt
open Go SL G Pa Wi
variable{B:World}{ro I I':AH}{tag tag':Nat->Nat}
abbrev CK:List Nat:=[0,2,3,4,5,8,10,12,13,14,54,55,56,57,58,62]
theorem ae0{Q:Bool->AH->Prop}(g:yT ro)(hQ:∀ tag' I',(∀R,qf R ro tag I tag' I')->Q true I'):uo B ro I Q:=by
 refine afq fun hs=>?_
 unfold aa9
 refine ql (tag:=T7) 8 hs fun X tag1 I1 st1 r1=>?_
 refine ag2 (tag:=tag1) (r1.read (st1 []).sep) fun W T Tt M ms Th tag2 I2 st2 h2=>?_
 rw[if_neg (by simp)]
 refine aiP g h2 fun tag3 I3 st3=>?_
 have o3:=h2.own.keepS st3
 have m3:=h2.mem.keepS st3
 refine ql (tag:=tag3) 13 st3.sep fun Z tag4 I4 st4 r4=>?_
 refine r4.stPre aey 0 _ I4 (st4 []).sep (by simp) ajs fun I5 st5 r5=>?_
 have y5:Row tag4 I5 13 _ ⟨some ⟨Z,0,none⟩,12,12⟩ aey:=r5
 have k5:qf [13] ro tag3 I3 tag4 I5:=(st4 [13]).trans st5
 have o5:=o3.keep k5
 have m5:=m3.keep k5
 have hs5:=st5.sep
 refine⟨0,(y5.read hs5).2.2 _ rfl 0 _ rfl,?_⟩
 rw[if_pos rfl]
 refine⟨1,(y5.read hs5).2.2 _ rfl 1 _ rfl,?_⟩
 unfold yf
 rw[if_pos (by decide)]
 refine⟨_,rfl,?_⟩
 refine acA fun _=>?_
 unfold yz
 refine⟨_,rfl,0,(o5.read hs5).2.2 _ rfl 0 _ rfl,?_⟩
 show xO B ro (some ⟨W,0,none⟩) Q (decide ((0:Int)=0)) I5
 unfold xO
 rw[if_pos (by decide)]
 refine⟨_,rfl,?_⟩
 refine abP fun _=>?_
 unfold jD
 refine⟨_,rfl,ms,(o5.read hs5).2.2 _ rfl 1 _ rfl,?_⟩
 refine afL (tag:=tag4) 14 (m5.read hs5) hs5 (by decide) (by simp[qg]) fun s tag6 I6 st6 r6=>?_
 unfold jx
 have hl:s.len=3:=(r6.read (st6 []).sep).1
 show Q (decide ((s.len:Int)=3)) I6
 rw[hl]
 have st:qd CK ro T7 I tag6 I6:=((st1 []).s (by simp)).trans ((st2.mono (by decide)).trans ((st3.mono (by decide)).trans ((k5.s (by simp)).trans ((st6 []).s (by simp)))))
 exact hQ _ I6 (st.mix (by decide) tag)
end Zt
namespace G
open Go SL
variable{B:World}{ro I:AH}
def pg(B:World)(ro:AH)(u0 u1:Nat)(Q:Int->ByteArray->Int->Int->Int->Int->Int->Int->Sl->ByteArray->Bool->Int->Sl->AH->Prop)(u2:Sl)(I:AH):=
 ∃u3,qa ro I ((⟨u0,0,none⟩:Addr).add 12)=some (Sl.v u3)/\
 uv B ro u3 I fun u4 I=>
 stN ((⟨u0,0,none⟩:Addr).add 8) (fun I=>
 stN ((⟨u0,0,none⟩:Addr).add 12) (fun I=>
  ∃u5 u6 u7 u8 u9 u10 u11 u12 u13 u14 u15 u16 u17,qj ro I ⟨u0,0,none⟩ 0 [.int .i64 u5,.string u6,.int .i64 u7,.int .i64 u8,.int .i64 u9,.int .i64 u10,.int .i64 u11,.int .i64 u12,Sl.v u13,.string u14,.bool u15,.int .i64 u16,Sl.v u17]/\
  stN ⟨u1,0,none⟩ (fun I=>
  ∃u18 u19 u20 u21 u22 u23 u24 u25 u26 u27 u28 u29 u30,qj ro I ⟨u1,0,none⟩ 0 [.int .i64 u18,.string u19,.int .i64 u20,.int .i64 u21,.int .i64 u22,.int .i64 u23,.int .i64 u24,.int .i64 u25,Sl.v u26,.string u27,.bool u28,.int .i64 u29,Sl.v u30]/\
  Q u18 u19 u20 u21 u22 u23 u24 u25 u26 u27 u28 u29 u30 I) [.int .i64 u5,.string u6,.int .i64 u7,.int .i64 u8,.int .i64 u9,.int .i64 u10,.int .i64 u11,.int .i64 u12,Sl.v u13,.string u14,.bool u15,.int .i64 u16,Sl.v u17] 0 I) [Sl.v u4] 0 I) [Sl.v u2] 0 I
def ja(B:World)(ro:AH)(u0 u1:Nat)(u2:Sl)(Q:Int->ByteArray->Int->Int->Int->Int->Int->Int->Sl->ByteArray->Bool->Int->Sl->AH->Prop):(Sl×Int)->AH->((Sl×Int)->AH->Prop)->Prop:=fun⟨u3,u4⟩ I Y10=>
 if u4<(u2.len:Int)then
 ∃p5,u2.a=some p5/\(0:Int)<=u4/\u4<(u2.len:Int)/\
 ∃u6 u7 u8 u9 u10 u11,qj ro I (p5.add (Int.toNat u4*6)) 0 [.int .i64 u6,.string u7,Sl.v u8,.int .i64 u9,.bool u10,.bool u11]/\
 nw ro I (.cells #[.int .i64 0,.string ByteArray.empty,Sl.v (⟨none,0,0⟩:Sl),.int .i64 0,.bool false,.bool false] 72) fun u12 I=>
 stN ⟨u12,0,none⟩ (fun I=>
  ∃u13,qa ro I ((⟨u12,0,none⟩:Addr).add 2)=some (Sl.v u13)/\
  jU B ro u13 I fun u14 I=>
  stN ((⟨u12,0,none⟩:Addr).add 2) (fun I=>
  ∃u15 u16 u17 u18 u19 u20,qj ro I ⟨u12,0,none⟩ 0 [.int .i64 u15,.string u16,Sl.v u17,.int .i64 u18,.bool u19,.bool u20]/\
  nw ro I (.cells #[.int .i64 u15,.string u16,Sl.v u17,.int .i64 u18,.bool u19,.bool u20] 72) fun u21 I=>
  awp prog ro (Builtin.append_ #[54,54] 54 #[Sl.v u3,Sl.v (⟨some ⟨u21,0,none⟩,1,1⟩:Sl)]) (fun v I=> ∃(u22:Sl),v=Sl.v u22/\
   Y10 (u22,i64.wrap (u4+1)) I) I) [Sl.v u14] 0 I) [.int .i64 u6,.string u7,Sl.v u8,.int .i64 u9,.bool u10,.bool u11] 0 I
 else
 pg B ro u0 u1 Q u3 I
def aaB(B:World)(ro:AH)(a0_0:Int)(a0_1:ByteArray)(a0_2 a0_3 a0_4 a0_5 a0_6 a0_7:Int)(a0_8:Sl)(a0_9:ByteArray)(a0_10:Bool)(a0_11:Int)(a0_12:Sl)(I:AH)(Q:Int->ByteArray->Int->Int->Int->Int->Int->Int->Sl->ByteArray->Bool->Int->Sl->AH->Prop):=
 nw ro I (.cells #[.int .i64 a0_0,.string a0_1,.int .i64 a0_2,.int .i64 a0_3,.int .i64 a0_4,.int .i64 a0_5,.int .i64 a0_6,.int .i64 a0_7,Sl.v a0_8,.string a0_9,.bool a0_10,.int .i64 a0_11,Sl.v a0_12] 57) fun u0 I=>
 nw ro I (.cells #[.int .i64 0,.string ByteArray.empty,.int .i64 0,.int .i64 0,.int .i64 0,.int .i64 0,.int .i64 0,.int .i64 0,Sl.v (⟨none,0,0⟩:Sl),.string ByteArray.empty,.bool false,.int .i64 0,Sl.v (⟨none,0,0⟩:Sl)] 57) fun u1 I=>
 ∃u2,qa ro I ((⟨u0,0,none⟩:Addr).add 8)=some (Sl.v u2)/\
 lfpD (ja B ro u0 u1 u2 Q) ((⟨none,0,0⟩:Sl),0) I
theorem ae1{a0_0:Int}{a0_1:ByteArray}{a0_2 a0_3 a0_4 a0_5 a0_6 a0_7:Int}{a0_8:Sl}{a0_9:ByteArray}{a0_10:Bool}{a0_11:Int}{a0_12:Sl}{Q:Int->ByteArray->Int->Int->Int->Int->Int->Int->Sl->ByteArray->Bool->Int->Sl->AH->Prop}(h:Sep ro I->aaB B ro a0_0 a0_1 a0_2 a0_3 a0_4 a0_5 a0_6 a0_7 a0_8 a0_9 a0_10 a0_11 a0_12 I Q):pP B ro a0_0 a0_1 a0_2 a0_3 a0_4 a0_5 a0_6 a0_7 a0_8 a0_9 a0_10 a0_11 a0_12 I Q:=by
 refine zb h func23 ntmps23 fun h=>?_;unfold aaB at h;refine z3 ?_;refine zA (vq rfl rfl) h fun u0 h=>?_;refine zA (wH rfl zK) h fun u1 h=>?_;refine z4 ?_;refine zp ?_;refine z2 ?_;refine AW.seqJ (fun fr I=> ∃(u2:Sl),qk [(1,.pointer (some ⟨u0,0,none⟩)),(2,.pointer (some ⟨u1,0,none⟩)),(3,Sl.v u2)] fr/\pg B ro u0 u1 Q u2 I) ?_ ?_
 .rintro fr I ⟨u2,hl,h⟩;refine AW.weaken ?_ hl (HLe.refl _)
  unfold pg at h;refine z3 ?_;refine zp ?_;refine zf underlying57 xR ?_;refine zL underlying55 h fun u3 h=>?_;refine zc func76 h ?_;rintro v I ⟨u4,rfl,h⟩;refine zf underlying57 adt ?_;refine zs adt h fun I h=>?_;refine zf underlying57 xR ?_;refine zs xR h fun I h=>?_;refine z4 ?_;obtain⟨u5,u6,u7,u8,u9,u10,u11,u12,u13,u14,u15,u16,u17,hc,h⟩:=h
  refine zl (jb rfl underlying57 rfl zK rfl hc ?_)
  refine zs zK h fun I h=>?_;refine z2 ?_;refine AW.ret ?_;obtain⟨u18,u19,u20,u21,u22,u23,u24,u25,u26,u27,u28,u29,u30,hc0,h⟩:=h
  exact ab2 results23 (wS (jR rfl underlying57 rfl zK hc0) jQ) ⟨_,_,_,_,_,_,_,_,_,_,_,_,_,rfl,h⟩
 refine z3 ?_;refine zf underlying57 adt ?_;refine zL underlying54 h fun u31 h=>?_;refine zm (qJ rfl rfl underlying54 rfl rfl) ?_;refine zp ?_;refine z2 (AW.block ?_)
 refine qn.loop (fr':=[(1,.pointer (some ⟨u0,0,none⟩)),(2,.pointer (some ⟨u1,0,none⟩)),(7,Sl.v u31),(8,.int .i64 (u31.len:Int)),(3,Sl.v (⟨none,0,0⟩:Sl)),(9,.int .i64 0)]) ?_ FL
 refine h (fun⟨u32,u33⟩ I=>qn _ _ _ _ _ _ [(1,.pointer (some ⟨u0,0,none⟩)),(2,.pointer (some ⟨u1,0,none⟩)),(7,Sl.v u31),(8,.int .i64 (u31.len:Int)),(3,Sl.v u32),(9,.int .i64 u33)] I) ?_
 rintro⟨u32,u33⟩ I Y10 hY10 h
 show AW _ _ _ _ _ _ _ _
 unfold ja at h;dsimp only at h;refine z3 ?_;refine zp ?_;refine z2 (AW.seq ?_)
 refine zi h (fun h=>?_) fun h=>?_
 rotate_left
 .refine AW.exit ?_;refine qR (qR ?_);refine wK ?_
  refine qc ?_;exact⟨_,FL,h⟩
 refine AW.skip ?_;refine qc (AW.seq (AW.block (z3 ?_)));obtain⟨p34,ha,h0,h1,h⟩:=h
 refine zm (vL rfl underlying54 je (ixL rfl ha) rfl h0 h1) ?_;obtain⟨u35,u36,u37,u38,u39,u40,hc,h⟩:=h
 refine zl (jb rfl underlying72 rfl je rfl hc ?_)
 refine zA (wH rfl je) h fun u41 h=>?_;refine zs je h fun I h=>?_;refine z4 ?_;refine zf underlying72 qV ?_;refine zL underlying24 h fun u42 h=>?_;refine zc func16 h ?_;rintro v I ⟨u43,rfl,h⟩;refine zf underlying72 qV ?_;refine zs qV h fun I h=>?_;refine z2 (AW.reg ?_)
 refine zp ?_;obtain⟨u44,u45,u46,u47,u48,u49,hc,h⟩:=h
 refine zl (jb rfl underlying72 rfl je rfl hc ?_)
 refine zA (wI (vs:=[(0,.agg #[.int .i64 u44,.string u45,Sl.v u46,.int .i64 u47,.bool u48,.bool u49])]) (cs:= #[.int .i64 u44,.string u45,Sl.v u46,.int .i64 u47,.bool u48,.bool u49]) rfl underlying54 je (by decide) rfl rfl) h fun u50 h=>?_;refine zl (jz (s:=Builtin.append_ #[54,54] 54 #[Sl.v u32,Sl.v (⟨some ⟨u50,0,none⟩,1,1⟩:Sl)]) rfl rfl (fun _=>rfl) (qv _ h ?_))
 rintro v I ⟨u51,rfl,h⟩;refine zp ?_;refine pT (wq (qc (AW.reg ?_)));iterate 2 refine zp ?_
 refine z2 ?_;refine qn.head (fr':=[(1,.pointer (some ⟨u0,0,none⟩)),(2,.pointer (some ⟨u1,0,none⟩)),(7,Sl.v u31),(8,.int .i64 (u31.len:Int)),(3,Sl.v u51),(9,.int .i64 (i64.wrap (u33+1)))]) ?_ FL
 exact hY10 _ _ h
end G
namespace Zt
open Go SL G Pa Wi
variable{B:World}{ro I I':AH}{tag tag':Nat->Nat}
theorem ag4{a0:Sl}{ws:List Int}{Q:Sl->AH->Prop}(q:Nat)(h:SL.qy ro I a0 (ws.map vI))(hl:ws.length<=1073741824)
  (hQ:∀ s tag' I',qf [q] ro tag I tag' I'->Row tag' I' q 3 s (ws.map vI)->Q s I'):uv B ro a0 I Q:=by
 refine ad1 fun hs=>?_
 unfold uy
 have hln:a0.len=ws.length:=by rw[h.1,List.length_map]
 rw[hln]
 refine⟨⟨by omega,by omega,by omega,by omega⟩,?_⟩
 rw[Int.toNat_natCast]
 intro b hro hb
 have st1:∀ R,qf R ro tag I (setTag tag b q) (upd I b (.cells (yl (.int .i64 0) (ws.length*1)) 3)):=fun R=>qf.fresh hs hro hb
 have r1:Row (setTag tag b q) (upd I b (.cells (yl (.int .i64 0) (ws.length*1)) 3)) q 3 ⟨some ⟨b,0,none⟩,ws.length,ws.length⟩ (List.replicate ws.length (vI 0)):=by
  refine .inr ⟨b,_,rfl,by simp[setTag],we _ _ _,by simp,by rw[aeO];simp,Nat.le_refl _,fun i hi=>?_⟩
  simp at hi
  rw[afz _ rfl _ _ (by omega),List.getElem?_replicate,if_pos hi]
 have h1:SL.qy ro _ a0 (ws.map vI):=h.step (st1 [])
 have:=adw (P:=prog) (ro:=ro) (t:=55) (t2:=55) (ty:=3) (m:=0) (l2:=ws.map vI) (Q:=fun v I=> ∃(x9_2:Int),v= .int .i64 x9_2/\Q ⟨some ⟨b,0,none⟩,ws.length,ws.length⟩ I) r1 (st1 []).sep (by kernel_rfl) aid (qy.src h1) (by simp) (by simp[qg]) (fun I2 st2 r2=>?_)
 .rw[jt]at this
  exact this
 .rw[List.take_zero,List.nil_append]at r2
  exact⟨_,rfl,hQ _ (setTag tag b q) I2 ((st1 [q]).trans st2) r2⟩
abbrev aih:List Value:=[.int .i64 0,.string ByteArray.empty,.int .i64 0,.int .i64 0,.int .i64 0,.int .i64 0,.int .i64 0,.int .i64 0,Sl.v (⟨none,0,0⟩:Sl),.string ByteArray.empty,.bool false,.int .i64 0,Sl.v (⟨none,0,0⟩:Sl)]
theorem acD(c:wh)(os ms:Sl):∀ v∈jk c os ms,qg v=true:=by simp[qg,Sl.v]
abbrev C17:List Nat:=[0,11,16,22,24,28]
structure aj1(ro:AH)(os ms:Sl)(c:wh):Prop where
 ops:acl ro os c.ops
 mem:SL.qy ro (fun _=>none) ms (c.members.map vI)
theorem abk{R:List Nat}{q:Nat}{s:Sl}{ops:List MOp}(h:wW tag I q s ops)(k:qf R ro tag I tag' I')(hq:q∉R)(h6:6∉R):wW tag' I' q s ops:=by
 obtain⟨ds,h1,h2,h3⟩:=h
 exact⟨ds,h1,wj.keep h2 k hq,fun i o d ho hd=>(h3 i o d ho hd).keep k h6⟩
theorem aeh{os ms:Sl}{c:wh}{Q:Int->ByteArray->Int->Int->Int->Int->Int->Int->Sl->ByteArray->Bool->Int->Sl->AH->Prop}(h:aj1 ro os ms c)(hl:c.ops.length<=2199023255488)(hml:c.members.length<=1048576)
  (hQ:∀ os' ms' tag' I',qd C17 ro tag I tag' I'->adN tag' I' 24 28 os' ms' c->Q c.kind (S c.home) c.session c.req c.nonce c.lease c.beats c.ack os' (S c.path) c.watch c.epoch ms' I'):
  pP B ro c.kind (S c.home) c.session c.req c.nonce c.lease c.beats c.ack os (S c.path) c.watch c.epoch ms I Q:=by
 refine ae1 fun hsep=>?_
 unfold aaB
 refine ql (tag:=tag) 11 hsep fun X tag1 I1 st1 r1=>?_
 refine ql (tag:=tag1) 16 (st1 []).sep fun Y tag2 I2 st2 r2=>?_
 have x2:=r1.keep (st2 [])
 refine⟨os,(x2.read (st2 []).sep).2.2 _ rfl 8 _ rfl,?_⟩
 have hln:=h.ops.1
 suffices∀m j s tag3 I3,j+m=c.ops.length->qd C17 ro tag I tag3 I3->Row tag3 I3 11 57 ⟨some ⟨X,0,none⟩,13,13⟩ (jk c os ms)->Row tag3 I3 16 57 ⟨some ⟨Y,0,none⟩,13,13⟩ aih->wW tag3 I3 24 s (c.ops.take j)->lfpD (ja B ro X Y os Q) (s,(j:Int)) I3 from
  this _ 0 ⟨none,0,0⟩ tag2 I2 (Nat.zero_add _) (((st1 []).trans (st2 [])).s (by simp)) x2 r2 ⟨[],rfl,wj.nil _ _ _,fun i o d h=>by cases h⟩
 intro m
 induction m with
 | zero=>
  intro j s tag3 I3 hj st3 x3 y3 h3
  refine lfpD.intro ?_
  unfold ja
  simp only
  rw[if_neg (by omega)]
  unfold pg
  rw[List.take_of_length_le (by omega)]at h3
  refine⟨ms,(x3.read st3.sep).2.2 _ rfl 12 _ rfl,?_⟩
  refine ag4 (tag:=tag3) 28 h.mem.keep (by omega) fun ms' tag4 I4 st4 m4=>?_
  have x4:=x3.keep st4
  have y4:=y3.keep st4
  have o4:=abk h3 st4 (by simp) (by simp)
  refine x4.stAt [Sl.v s] 8 st4.sep (by simp) (by simp[qg,Sl.v]) fun I5 st5 x5=>?_
  refine x5.stAt [Sl.v ms'] 12 st5.sep (by simp) (by simp[qg,Sl.v]) fun I6 st6 x6=>?_
  have x7:Row tag4 I6 11 57 ⟨some ⟨X,0,none⟩,13,13⟩ (jk c s ms'):=x6
  have k6:qf [11] ro tag4 I4 tag4 I6:=st5.trans st6
  refine⟨_,_,_,_,_,_,_,_,_,_,_,_,_,wX (x7.read st6.sep) rfl,?_⟩
  refine(y4.keep k6).stPre (jk c s ms') 0 _ I6 st6.sep (by simp) (acD _ _ _) fun I7 st7 y7=>?_
  have y8:Row tag4 I7 16 57 ⟨some ⟨Y,0,none⟩,13,13⟩ (jk c s ms'):=y7
  refine⟨_,_,_,_,_,_,_,_,_,_,_,_,_,wX (y8.read st7.sep) rfl,?_⟩
  exact hQ s ms' tag4 I7 (st3.trans ((st4.s (by simp)).trans ((k6.s (by simp)).trans (st7.s (by simp))))) ⟨abk (abk o4 k6 (by simp) (by simp)) st7 (by simp) (by simp),(m4.keep k6).keep st7⟩
 | succ m ih=>
  intro j s tag3 I3 hj st3 x3 y3 h3
  have hjl:j<c.ops.length:=by omega
  obtain⟨q,ds,hq,hc,hrd,hdl⟩:=(h.ops.m I3).2 j c.ops[j] (List.getElem?_eq_getElem hjl)
  refine lfpD.intro ?_
  unfold ja
  simp only
  rw[if_pos (by omega)]
  refine⟨q,hq,by omega,by omega,c.ops[j].kind,S c.ops[j].path,ds,c.ops[j].ver,c.ops[j].eph,c.ops[j].seq,by rw[Int.toNat_natCast];exact hc,?_⟩
  refine pN (tag:=tag3) 22 st3.sep rfl (by simp[qg,Sl.v]) fun x tag4 I4 st4 r4=>?_
  refine⟨ds,(r4.read (st4 []).sep).2.2 _ rfl 2 _ rfl,?_⟩
  refine ajn (tag:=tag4) 6 hrd.keep (st4 []).sep (by simp;omega) (by simp[qg]) fun s' tag5 I5 st5 r5=>?_
  refine(r4.keep (st5 [])).st (i:=2) (st5 []).sep rfl (by simp) rfl fun I6 st6 r6=>?_
  refine⟨c.ops[j].kind,S c.ops[j].path,s',c.ops[j].ver,c.ops[j].eph,c.ops[j].seq,Row.cellsAt r6 st6.sep,?_⟩
  refine ql (tag:=tag5) 0 st6.sep fun y tag7 I7 st7 r7=>?_
  have k37:qf [22] ro tag3 I3 tag7 I7:=((st4 _).trans (st5 _)).trans (st6.trans (st7 _))
  obtain⟨dd,d1,d2,d3⟩:=abk h3 k37 (by simp) (by simp)
  have hlz:(List.zipWith opV (c.ops.take j) dd).length=j:=by rw[List.length_zipWith,d1,Nat.min_self,List.length_take];omega
  refine aaK (l2:=[opV c.ops[j] s']) d2 (st7 []).sep (Row.readW1 r7 (st7 []).sep rfl (by decide)) (t:=54) (by kernel_rfl) je rfl (by simp[opV,qg,Sl.v]) (by rw[hlz];simp;omega) (by decide) fun sn tag8 I8 st8 r8=>?_
  have st8':=st8 [24] (.inr (by simp))
  refine⟨sn,rfl,?_⟩
  rw[Pa.inc j (by omega)]
  refine ih (j+1) sn tag8 I8 (by omega) (st3.trans ((k37.s (by simp)).trans (st8'.s (by simp)))) ((x3.keep k37).keep st8') ((y3.keep k37).keep st8') ?_
  have etk:c.ops.take (j+1)=c.ops.take j++[c.ops[j]]:=by rw[List.take_add_one,List.getElem?_eq_getElem hjl];try rfl
  rw[etk]
  refine⟨dd++[s'],by rw[List.length_append,List.length_append,d1];try rfl,?_,fun i o d ho hd=>?_⟩
  .rw[List.zipWith_append d1.symm];exact r8
  .rcases Nat.lt_or_ge i (c.ops.take j).length with h | h
   .rw[List.getElem?_append_left h]at ho
    rw[List.getElem?_append_left (by omega)]at hd
    exact(d3 i o d ho hd).keep st8'
   .rw[List.getElem?_append_right h]at ho
    rw[List.getElem?_append_right (by omega),d1]at hd
    cases hz:i - (c.ops.take j).length with
    | zero=>
     rw[hz]at ho hd
     cases ho;cases hd
     exact(((r5.keep st6).keep (st7 [])).keep st8').held
    | succ k=>rw[hz]at ho;cases ho
end Zt
namespace SL
open Go
def ww(n:Nat)(P:Program)(W:World)(H:Type)(enc:TypeId×Value->H)(t:TypeId)(cs:List Value):Prop:= ∃fuel d ps,DataW.trod enc P W 0 (fun _=>true) true fuel t cs=some (d,ps)/\(d.weights P t).all (· <=reachBytes)=true/\Rows.uptoBulk d<=n
variable{n:Nat}{P:Program}{W:World}{H:Type}{enc:TypeId×Value->H}
theorem ww.arg{t:TypeId}{cs:List Value}(h:ww n P W H enc t cs):Arg P W H enc t cs:=by
 obtain⟨f,d,ps,h1,h2,_⟩:=h
 exact⟨f,d,ps,h1,h2⟩
theorem ww.slice{t e:TypeId}{a:Option Addr}{len cap:Nat}(ht:P.underlying t=some (.slice e))(h:ww n P W H enc t [.slice a len cap]):
  (a=none/\len=0/\cap=0)\/∃ x,a=some x/\len<=cap/\len<=n/\∀ j,j<len->∃ cs,cs.length=P.cellsOf e/\(∀i,i<P.cellsOf e->W.cell? ((x.add (j*P.cellsOf e)).add i)=cs[i]?)/\ww n P W H enc e cs:=by
 obtain⟨fuel,d,ps,hf,hw,hb⟩:=h
 rcases Go.Deep.open_slice ht hf with⟨hcs,_⟩ | ⟨x,l,c,m,k,D,Pl,hcs,_,hl,_,hm,hx,hel⟩
 .simp at hcs;exact .inl hcs
 .simp at hcs
  obtain⟨rfl,rfl,rfl⟩:=hcs
  simp only[Prod.mk.injEq]at hx
  rw[hx.1]at hw hb
  rw[DataW.weights,ht]at hw
  simp only[Rows.uptoBulk]at hb
  simp only[List.all_cons,List.all_append,Bool.and_eq_true,decide_eq_true_eq,List.length_map,List.length_range]at hw
  refine .inr ⟨x,rfl,hl,?_,fun j hj=>?_⟩
  .have:=agU ((List.range len).map D)
   simp at this
   omega
  .obtain⟨cs,h1,h2⟩:=hel j (by simp at hm;omega)
   obtain⟨_,h3,h4⟩:=World.cells?_some h1
   have:=ab5 (l:=(List.range len).map D) (i:=j) (d:=D j) (by rw[List.getElem?_map,List.getElem?_range hj];try rfl)
   exact⟨cs,h3,h4,k,D j,Pl j,h2,ae7 (List.mem_map.2 ⟨j,List.mem_range.2 hj,rfl⟩) hw.2.1,by omega⟩
theorem ww.struct{t:TypeId}{fs:Array Field}{cs:List Value}(ht:P.underlying t=some (.struct fs))(h:ww n P W H enc t cs):
  cs.length=P.cellsOf t/\∀ (i:Nat) (f:Field),fs.toList[i]?=some f->ww n P W H enc f.type ((cs.drop f.offset).take (P.cellsOf f.type)):=by
 obtain⟨fuel,d,ps,hf,hw,hb⟩:=h
 cases fuel with
 | zero=>cases hf
 | succ m=>
  unfold DataW.trod at hf
  rw[ht]at hf
  simp only at hf
  split at hf
  .rename_i hl
   refine⟨hl,fun i f hi=>?_⟩
   obtain⟨r,hr,hd⟩:=Option.map_eq_some_iff.1 hf
   have h1:=mapM_some_get hr i f hi
   have h2:=mapM_some_length hr
   have hil:i<fs.toList.length:=by
    rcases Nat.lt_or_ge i fs.toList.length with h' | h'
    .exact h'
    .rw[List.getElem?_eq_none h']at hi;cases hi
   rw[List.getElem?_eq_getElem (by omega)]at h1
   simp only[Prod.mk.injEq]at hd
   rw[<-hd.1]at hb
   simp only[Rows.uptoBulk]at hb
   rw[<-hd.1,DataW.weights,ht]at hw
   have:=ab5 (l:=r.map (·.1)) (i:=i) (d:=r[i].1) (by rw[List.getElem?_map,List.getElem?_eq_getElem (by omega)];try rfl)
   refine⟨m,r[i].1,r[i].2,h1,uL (ts:=fs.toList.map (·.type)) (i:=i) (by rw[List.getElem?_map,hi];try rfl) (by rw[List.getElem?_map,List.getElem?_eq_getElem (by omega)];try rfl) hw,by omega⟩
  .cases hf
theorem ww.field{t t':TypeId}{o:Nat}{L:List (TypeId×Nat)}{cs:List Value}(hu:∃ fs,P.underlying t=some (.struct fs)/\fs.toList.map (fun f:Field=>(f.type,f.offset))=L)(h:ww n P W H enc t cs)(i:Nat)(hi:L[i]?=some (t',o)):ww n P W H enc t' ((cs.drop o).take (P.cellsOf t')):=by
 obtain⟨fs,hu,hfs⟩:=hu
 rw[<-hfs,List.getElem?_map]at hi
 obtain⟨f,hf,e⟩:=Option.map_eq_some_iff.1 hi
 have:=(h.struct hu).2 i f hf
 simp only[Prod.mk.injEq]at e
 rwa [e.1,e.2]at this
theorem ww.i64{t:TypeId}{u:Value}(ht:P.underlying t=some (.int .i64))(h:ww n P W H enc t [u]):∃ x:Int,u= .int .i64 x/\ -9223372036854775808<=x:=by
 obtain⟨fuel,d,ps,hf,_⟩:=h
 obtain⟨x,h,h2,_⟩:=ai1 ht hf
 exact⟨x,h,h2⟩
theorem ww.text{t:TypeId}{u:Value}(ht:P.underlying t=some .string)(h:ww n P W H enc t [u]):∃ s:ByteArray,u= .string s/\s.size<=n:=by
 obtain⟨s,rfl,_⟩:=Arg.str ht h.arg
 refine⟨s,rfl,?_⟩
 obtain⟨fuel,d,ps,hf,_,hb⟩:=h
 cases fuel with
 | zero=>cases hf
 | succ m=>
  unfold DataW.trod at hf
  rw[ht]at hf
  simp at hf
  obtain⟨_,rfl,_⟩:=hf
  simp only[Rows.uptoBulk]at hb
  simp at hb
  omega
theorem ww.isSlice{t e:TypeId}{v:Value}(ht:P.underlying t=some (.slice e))(h:ww n P W H enc t [v]):∃ s:Sl,v=Sl.v s:=by
 obtain⟨fuel,d,ps,hf,_⟩:=h
 rcases Go.Deep.open_slice ht hf with⟨e,_⟩ | ⟨x,l,c,_,_,_,_,e,_⟩
 .simp at e;exact⟨⟨none,0,0⟩,e⟩
 .simp at e;exact⟨⟨some x,l,c⟩,e⟩
theorem ww.rows{α:Type}[Inhabited α]{t e:TypeId}{w:Nat}{s:Sl}{V:α->List Value}{G:α->Prop}(ht:P.underlying t=some (.slice e))(hw:P.cellsOf e=w)(hV:∀ y,(V y).length=w)(hd:∀ cs,ww n P W H enc e cs->cs.length=w->∃ y,cs=V y/\G y)(h:ww n P W H enc t [Sl.v s]):
  ∃l:List α,l.length<=n/\pQ (all W) (fun _=>none) w s (l.map V)/\(∀y∈l,G y)/\s.len<=s.cap:=by
 obtain⟨a,len,cap⟩:=s
 rcases ww.slice ht h with⟨rfl,rfl,rfl⟩ | ⟨x,rfl,hl,hb,hel⟩
 .exact⟨[],by simp,⟨rfl,fun _=>rfl,(fun _ h=>by cases h),fun p h=>by cases h⟩,(fun _ h=>by cases h),Nat.le_refl _⟩
 .rw[hw]at hel
  have key:∀ j:Nat,∃y:α,j<len->(∀i,i<w->W.cell? ((x.add (j*w)).add i)=(V y)[i]?)/\G y:=fun j=>by
   by_cases hj:j<len
   .obtain⟨cs,h1,h2,h3⟩:=hel j hj
    obtain⟨y,rfl,hy⟩:=hd cs h3 h1
    exact⟨y,fun _=>⟨h2,hy⟩⟩
   .exact⟨default,fun h=>absurd h hj⟩
  obtain⟨f,hf⟩:=Classical.axiomOfChoice key
  have hlen:((List.range len).map f).length=len:=by simp
  refine⟨(List.range len).map f,by rw[hlen];exact hb,⟨by simp,(fun h=>by cases h),?_,fun p hp i v hv=>?_⟩,fun y hy=>?_,hl⟩
  .intro z hz
   obtain⟨y,_,rfl⟩:=List.mem_map.1 hz
   exact hV y
  .cases hp
   have hwid:∀ z∈((List.range len).map f).map V,z.length=w:=fun z hz=>by
    obtain⟨y,_,rfl⟩:=List.mem_map.1 hz
    exact hV y
   have hfl:=aem hwid
   rw[List.length_map,hlen]at hfl
   have hi:i<len*w:=by
    rcases Nat.lt_or_ge i (len*w)with h | h
    .exact h
    .rw[List.getElem?_eq_none (by omega)]at hv;cases hv
   have hw0:0<w:=by
    rcases Nat.eq_zero_or_pos w with h | h
    .rw[h]at hi;simp at hi
    .exact h
   have hdm:=Nat.div_add_mod i w
   have hj:i / w<len:=Nat.div_lt_of_lt_mul (by rw[Nat.mul_comm];exact hi)
   have hm:=Nat.mod_lt i hw0
   have he:(((List.range len).map f).map V)[i / w]?=some (V (f (i / w))):=by
    rw[List.getElem?_map,List.getElem?_map,List.getElem?_range hj];try rfl
   have hg:=aen hwid he hm
   rw[Nat.mul_comm]at hdm
   rw[hdm,hv]at hg
   have:=(hf _ hj).1 _ hm
   rw[aer,hdm,<-hg]at this
   exact aiZ _ this
  .obtain⟨j,hj,rfl⟩:=List.mem_map.1 hy
   exact(hf j (List.mem_range.1 hj)).2
theorem ajD{α:Type}(f:α->Value)(l:List α):(l.map fun y=>[f y]).flatten=l.map f:=by
 induction l with
 | nil=>rfl
 | cons a l ih=>rw[List.map_cons,List.flatten_cons,ih];try rfl
theorem pQ.one{s:Sl}{α:Type}{f:α->Value}{l:List α}{ro I:AH}(h:pQ ro I 1 s (l.map fun y=>[f y])):qy ro I s (l.map f):=by
 refine⟨by rw[h.1];simp,fun hn=>?_,fun p hp i v hv=>h.2.2.2 p hp i v (by rw[ajD];exact hv)⟩
 have:=h.2.1 hn
 simpa using this
end SL
namespace Zt
open Go SL G Pa Wi
theorem ph:∃ fs,prog.underlying 57=some (.struct fs)/\fs.toList.map (fun f:Field=>(f.type,f.offset))=[(3,0),(9,1),(3,2),(3,3),(3,4),(3,5),(3,6),(3,7),(54,8),(9,9),(4,10),(3,11),(55,12)]:=⟨_,underlying57,rfl⟩
theorem afs:∃ fs,prog.underlying 72=some (.struct fs)/\fs.toList.map (fun f:Field=>(f.type,f.offset))=[(3,0),(9,1),(24,2),(3,3),(4,4),(4,5)]:=⟨_,underlying72,rfl⟩
theorem alz:prog.cellsOf 57=13:=by kernel_rfl
theorem al1:prog.cellsOf 72=6:=by kernel_rfl
theorem kI:prog.cellsOf 3=1:=by kernel_rfl
theorem kB:prog.cellsOf 4=1:=by kernel_rfl
theorem kU:prog.cellsOf 5=1:=by kernel_rfl
theorem kS9:prog.cellsOf 9=1:=by kernel_rfl
theorem kD:prog.cellsOf 24=1:=by kernel_rfl
theorem kOs:prog.cellsOf 54=1:=by kernel_rfl
theorem kIs:prog.cellsOf 55=1:=by kernel_rfl
theorem uOs:prog.underlying 54=some (.slice 72):=by kernel_rfl
theorem uDs:prog.underlying 24=some (.slice 5):=by kernel_rfl
theorem uU:prog.underlying 5=some (.int .u8):=by kernel_rfl
theorem uBo:prog.underlying 4=some .bool:=by kernel_rfl
variable{n:Nat}{W:World}{H:Type}{enc:TypeId×Value->H}
theorem alA{s:Sl}(h:ww n prog W H enc 24 [Sl.v s]):∃ d:Str,d.length<=n/\SL.qy (all W) (fun _=>none) s (d.map vU):=by
 obtain⟨l,h1,h2,_,_⟩:=ww.rows (α:=UInt8) (V:=fun c=>[vU c]) (G:=fun _=>True) uDs kU (fun _=>rfl) (fun cs hc hl=>by
  match cs,hl with
  | [u],_=>
   obtain⟨c,rfl⟩:=Arg.u8 uU hc.arg
   exact⟨c,rfl,trivial⟩) h
 exact⟨l,h1,h2.one⟩
theorem alB{s:Sl}(h:ww n prog W H enc 55 [Sl.v s]):∃ d:List Int,d.length<=n/\SL.qy (all W) (fun _=>none) s (d.map vI):=by
 obtain⟨l,h1,h2,_,_⟩:=ww.rows (α:=Int) (V:=fun c=>[vI c]) (G:=fun _=>True) aeX kI (fun _=>rfl) (fun cs hc hl=>by
  match cs,hl with
  | [u],_=>
   obtain⟨c,rfl,_⟩:=ww.i64 u3' hc
   exact⟨c,rfl,trivial⟩) h
 exact⟨l,h1,h2.one⟩
instance:Inhabited MOp:=⟨⟨0,[],[],0,false,false⟩⟩
instance:Inhabited Sl:=⟨⟨none,0,0⟩⟩
theorem al2{s:Sl}(h:ww 1048576 prog W H enc 54 [Sl.v s]):∃ ops:List MOp,ops.length<=1048576/\acl (all W) s ops/\∀ o∈ops,o.path.length<=1048576/\o.data.length<=1048576:=by
 obtain⟨l,h1,h2,h3,_⟩:=ww.rows (α:=MOp×Sl) (V:=fun y=>opV y.1 y.2) (G:=fun y=>(y.1.path.length<=1048576/\y.1.data.length<=1048576)/\SL.qy (all W) (fun _=>none) y.2 (y.1.data.map vU)) uOs al1 (fun _=>rfl) (fun cs hc hl=>by
  match cs,hl with
  | [v0,v1,v2,v3,v4,v5],_=>
   have a0:=hc.field afs 0 rfl
   have a1:=hc.field afs 1 rfl
   have a2:=hc.field afs 2 rfl
   have a3:=hc.field afs 3 rfl
   have a4:=hc.field afs 4 rfl
   have a5:=hc.field afs 5 rfl
   rw[kI]at a0 a3
   rw[kS9]at a1
   rw[kD]at a2
   rw[kB]at a4 a5
   obtain⟨x0,rfl,_⟩:=ww.i64 u3' a0
   obtain⟨x1,rfl,h1⟩:=ww.text u9 a1
   obtain⟨ds,rfl⟩:=ww.isSlice uDs a2
   obtain⟨d,hd,rd⟩:=alA a2
   obtain⟨x3,rfl,_⟩:=ww.i64 u3' a3
   obtain⟨x4,rfl⟩:=Arg.bool uBo a4.arg
   obtain⟨x5,rfl⟩:=Arg.bool uBo a5.arg
   exact⟨(⟨x0,L x1,d,x3,x4,x5⟩,ds),by simp[opV,Pa.vS],⟨by rw[zu];exact h1,hd⟩,rd⟩) h
 refine⟨l.map (·.1),by simpa using h1,⟨by rw[h2.1];simp,fun j o ho=>?_⟩,fun o ho=>?_⟩
 .rw[List.getElem?_map]at ho
  obtain⟨y,hy,rfl⟩:=Option.map_eq_some_iff.1 ho
  have hm:=h3 y (List.mem_of_getElem? hy)
  obtain⟨q,hq,_⟩:=h2.at (j:=j) (x:=opV y.1 y.2) (by rw[List.getElem?_map,hy];try rfl)
  refine⟨q,y.2,hq,fun I=>?_,hm.2,by have:=hm.1.2;omega⟩
  obtain⟨q',hq',hc⟩:=(h2.keep (I:=I)).at (j:=j) (x:=opV y.1 y.2) (by rw[List.getElem?_map,hy];try rfl)
  rw[hq]at hq';cases hq'
  exact hc
 .obtain⟨y,hy,rfl⟩:=List.mem_map.1 ho
  exact(h3 y hy).1
instance:Inhabited wh:=⟨wh.zero⟩
end Zt
namespace Zt
open Go SL G Pa Wi
variable{B:World}{ro I I':AH}{tag tag':Nat->Nat}
theorem alC{f:Nat}:decide (Int.tmod (f:Int) 2=1)=decide (f%2=1):=by
 have:Int.tmod (f:Int) 2=((f%2:Nat):Int):=by rw[Int.tmod_eq_emod_of_nonneg (by omega)];omega
 rw[this]
 by_cases h:f%2=1
 .rw[decide_eq_true h,decide_eq_true (by omega)]
 .rw[decide_eq_false h,decide_eq_false (by omega)]
theorem gt1{f:Nat}:decide ((1:Int)<(f:Int))=decide (1<f):=by
 by_cases h:1<f
 .rw[decide_eq_true h,decide_eq_true (by omega)]
 .rw[decide_eq_false h,decide_eq_false (by omega)]
theorem qY.push{q:Nat}{s s' d:Sl}{ops:List MOp}{o:MOp}{dd:List Sl}{tag7:Nat->Nat}{I7:AH}(d1:dd.length=ops.length)(d3:∀ (i:Nat) (o:MOp) (d:Sl),ops[i]?=some o->dd[i]?=some d->Dat ro tag7 I7 d o.data)(r7:wj tag7 I7 q 276 6 s' (List.zipWith opV ops dd++[opV o d]))(hd:Dat ro tag7 I7 d o.data):qY ro tag7 I7 q s' (ops++[o]):=by
 refine⟨dd++[d],by simp[d1],by rw[List.zipWith_append d1.symm];exact r7,fun i o' d' ho hd'=>?_⟩
 rcases Nat.lt_or_ge i ops.length with h | h
 .rw[List.getElem?_append_left h]at ho
  rw[List.getElem?_append_left (by omega)]at hd'
  exact d3 i o' d' ho hd'
 .rw[List.getElem?_append_right h]at ho
  rw[List.getElem?_append_right (by omega),d1]at hd'
  cases hz:i - ops.length with
  | zero=>rw[hz]at ho hd';cases ho;cases hd';exact hd
  | succ k=>rw[hz]at ho;cases ho
theorem ajE{a0:Sl}{b:Str}{q:Nat}{Q:Sl->Bool->AH->Prop}(hq:q<64)(hq0:q≠0)(hq6:q≠6)(hq35:q≠35)(hr:SL.qy ro (fun _=>none) a0 (b.map vU))(hc:a0.len<=a0.cap)(hl:b.length<=140737488355328)
  (hno:jE b=none->∀ s tag' I',qd [0,35,q] ro tag I tag' I'->Q s false I')
  (hyes:∀ l,jE b=some l->∀ s tag' I',qd [0,35,q] ro tag I tag' I'->qY (fun _=>none) tag' I' q s l->Q s true I'):ug B ro a0 I Q:=by
 refine agR fun hs=>?_
 unfold acs
 have hqm:q%64=q:=Nat.mod_eq_of_lt hq
 refine ql (tag:=tag) 35 hs fun A tag1 I1 st1 r1=>?_
 have rd1:ji tag1 I1 35 A a0 b ⟨b,0⟩:=⟨0,Nat.zero_le _,rfl,r1⟩
 refine zV rd1 hr hl fun I2 st2 rd2=>?_
 have hge:jE b=if(qo ⟨b,0⟩).2.err≠0\/16<(qo ⟨b,0⟩).1 then none else match jj (qo ⟨b,0⟩).1 (qo ⟨b,0⟩).2 with | none=>none | some (l,r)=>if r.rest=[]then some l else none:=rfl
 obtain⟨H,hH⟩:∃ H,qo ⟨b,0⟩=H:=⟨_,rfl⟩
 rw[hH]at hge rd2
 rw[hH]
 have s2:qd [0,35,q] ro tag I tag1 I2:=((st1 []).s (by simp)).trans (st2.s (by simp))
 refine⟨_,rd2.err st2.sep,?_⟩
 by_cases c:H.2.err≠0\/16<H.1
 .rw[if_pos (by
   rcases c with c | c
   .exact .inl c
   .exact .inr (by omega))]
  exact hno (by rw[hge,if_pos c]) _ tag1 I2 s2
 rw[if_neg (by
  rintro(h | h)
  .exact c (.inl h)
  .exact c (.inr (by omega)))]
 rw[if_neg c]at hge
 simp only[not_or,Classical.not_not]at c
 suffices∀m i out (l:List MOp) (x:Rd) tag4 I4,i+m=H.1->l.length=i->x.err=0->(jj m x=none->jj H.1 H.2=none)->(∀l' r',jj m x=some (l',r')->jj H.1 H.2=some (l++l',r'))->
   qd [0,35,q] ro tag I tag4 I4->qY (fun _=>none) tag4 I4 q out l->ji tag4 I4 35 A a0 b x->lfpD (xY B ro A (H.1:Int) Q) (out,(i:Int)) I4 from
  this H.1 0 ⟨none,0,0⟩ [] H.2 tag1 I2 (Nat.zero_add _) rfl c.1 id (fun l' r' h=>h) s2 ⟨[],rfl,wj.nil _ _ _,fun i o d h=>by cases h⟩ rd2
 intro m
 induction m with
 | zero=>
  intro i out l x tag4 I4 hi hli e0 g1 g2 st4 o4 rd4
  refine lfpD.intro ?_
  unfold xY
  simp only
  rw[if_neg (by omega)]
  unfold aam
  have hL:=g2 [] x rfl
  rw[List.append_nil]at hL
  refine adJ rd4 hr hl ?_
  have hge2:jE b=if x.rest=[]then some l else none:=by rw[hge,hL]
  by_cases hr:x.rest=[]
  .rw[hr]
   exact hyes l (by rw[hge2,if_pos hr]) out tag4 I4 st4 o4
  .have:=List.length_pos_iff.2 hr
   rw[show decide (((x.rest.length:Nat):Int)=0)=false by simp;exact hr]
   exact hno (by rw[hge2,if_neg hr]) _ tag4 I4 st4
 | succ m ih=>
  intro i out l x tag4 I4 hi hli e0 g1 g2 st4 o4 rd4
  have hgl:jj (m+1) x=if jJ (rop x)then none else match jj m (rop x).2 with | none=>none | some (l,r')=>some ((rop x).1.1::l,r'):=rfl
  have hnone:jj (m+1) x=none->jE b=none:=fun hn=>by rw[hge,g1 hn]
  refine lfpD.intro ?_
  unfold xY
  simp only
  rw[if_pos (by omega)]
  refine zV rd4 hr hl fun I5 st5 rd5=>?_
  refine pN (tag:=tag4) 0 st5.sep rfl (by simp[qg,Sl.v]) fun X tag6 I6 st6 r6=>?_
  refine aaV (by decide) (rd5.keep (st6 [])) hr hc hl fun d1 tag7 I7 st7 rd7 k7=>?_
  refine abm (k7.read st7.sep) ?_
  refine⟨_,rfl,?_⟩
  refine(r6.keep st7 (by decide)).st (i:=1) st7.sep rfl (by simp) rfl fun I8 st8 r8=>?_
  refine aaV (by decide) (rd7.keep st8 (by decide)) hr hc hl fun dsl tag9 I9 st9 rd9 k9=>?_
  refine(r8.keep st9 (by decide)).st (i:=2) st9.sep rfl (by simp) rfl fun Ia sta ra=>?_
  refine zV (rd9.keep sta (by decide)) hr hl fun Ib stb rdb=>?_
  have ev:i64.wrap (((qo (qO (qO (qo x).2).2).2).1:Nat) - 1:Int)=((qo (qO (qO (qo x).2).2).2).1:Int) - 1:=by
   have:=ahr (qO (qO (qo x).2).2).2
   rw[SL.qW (by omega) (by omega)]
  rw[ev]
  refine(ra.keep stb (by decide)).st (i:=3) stb.sep rfl (by simp) rfl fun Ic stc rc=>?_
  refine zV (rdb.keep stc (by decide)) hr hl fun Id std rdd=>?_
  have rd:=rc.keep std (by decide)
  have kd:=(((k9.keep sta (by decide)).keep stb (by decide)).keep stc (by decide)).keep std (by decide)
  have s4d:qd [0,35] ro tag4 I4 tag9 Id:=(st5.s (by decide)).trans (((st6 []).s (by simp)).trans ((st7.s (by decide)).trans ((st8.s (by decide)).trans ((st9.s (by decide)).trans ((sta.s (by decide)).trans ((stb.s (by decide)).trans ((stc.s (by decide)).trans (std.s (by decide)))))))))
  have od:=o4.keepN s4d (by rw[hqm];simp;omega) (by decide)
  have hsd:=s4d.sep
  have stD:qd [0,35,q] ro tag I tag9 Id:=st4.trans (s4d.mono (by simp))
  have rd:Row tag9 Id 0 276 ⟨some ⟨X,0,none⟩,6,6⟩ [.int .i64 (rop x).1.1.kind,Pa.vS (rop x).1.1.path,Sl.v dsl,.int .i64 (rop x).1.1.ver,.bool false,.bool false]:=rd
  have rdd:ji tag9 Id 35 A a0 b (rop x).2:=rdd
  have kd:Row tag9 Id 6 5 dsl ((rop x).1.1.data.map vU):=kd
  have hfe:(((qo (qo (qO (qO (qo x).2).2).2).2).1:Nat):Int)=((rop x).1.2:Int):=rfl
  have heph:(rop x).1.1.eph=decide ((rop x).1.2%2=1):=rfl
  have hseq:(rop x).1.1.seq=decide (1<(rop x).1.2):=rfl
  rw[hfe]
  refine⟨_,rdd.err hsd,?_⟩
  obtain⟨Y,hY⟩:∃ Y,rop x=Y:=⟨_,rfl⟩
  rw[hY]at hgl rd rdd kd heph hseq
  rw[hY]
  obtain⟨p,hp,hg⟩:=rd.ptr hsd (by simp)
  cases hp
  have bad:jJ Y->∀ s,Q s false Id:=fun hb s=>hno (hnone (by rw[hgl,if_pos hb])) s tag9 Id stD
  have b20:jJ Y->xq B ro out (i:Int) X A (H.1:Int) (Y.1.2:Int) Q (lfpD (xY B ro A (H.1:Int) Q)) true Id:=fun hb=>by
   unfold xq;rw[if_pos (.inl rfl)];exact bad hb _
  have b18:jJ Y->xr B ro out (i:Int) X A (H.1:Int) (Y.1.2:Int) Q (lfpD (xY B ro A (H.1:Int) Q)) true Id:=fun hb=>by
   unfold xr;rw[if_pos rfl];exact b20 hb
  by_cases c1:Y.2.err≠0
  .rw[if_pos c1]
   exact b18 (.inl c1)
  rw[if_neg c1]
  refine⟨_,by have:=hg 0 _ rfl;rwa [Nat.zero_mul,yk]at this,?_⟩
  by_cases c2:Y.1.1.kind<1
  .rw[show decide (Y.1.1.kind<1)=true by simpa using c2]
   exact b18 (.inr (.inl c2))
  rw[show decide (Y.1.1.kind<1)=false by simpa using c2]
  unfold xr
  rw[if_neg (by simp)]
  refine⟨_,by have:=hg 0 _ rfl;rwa [Nat.zero_mul,yk]at this,?_⟩
  by_cases c3:4<Y.1.1.kind
  .rw[show decide (4<Y.1.1.kind)=true by simpa using c3]
   exact b20 (.inr (.inr (.inl c3)))
  rw[show decide (4<Y.1.1.kind)=false by simpa using c3]
  unfold xq
  by_cases c4:3<Y.1.2
  .rw[if_pos (.inr (by omega))]
   exact bad (.inr (.inr (.inr c4))) _
  rw[if_neg (by rintro(h | h);cases h;omega)]
  have hnb:¬ jJ Y:=by
   unfold jJ
   rintro(h | h | h | h)
   .exact c1 h
   .exact c2 h
   .exact c3 h
   .exact c4 h
  rw[if_neg hnb]at hgl
  rw[alC,<-heph,gt1,<-hseq]
  refine rd.st (i:=4) hsd rfl (by simp) rfl fun Ie ste re=>?_
  refine re.st (i:=5) ste.sep rfl (by simp) rfl fun If stf rf=>?_
  have rf:Row tag9 If 0 276 ⟨some ⟨X,0,none⟩,6,6⟩ (opV Y.1.1 dsl):=rf
  refine⟨_,_,_,_,_,_,Row.cellsAt rf stf.sep,?_⟩
  refine ql (tag:=tag9) 0 stf.sep fun y tagg Ig stg rg=>?_
  have sdg:qd [0] ro tag9 Id tagg Ig:=(ste.s (by decide)).trans ((stf.s (by decide)).trans ((stg []).s (by simp)))
  obtain⟨dd,d1,d2,d3⟩:=od.keepN sdg (by rw[hqm];simp;omega) (by simp)
  have hlz:(List.zipWith opV l dd).length=i:=by rw[List.length_zipWith,d1,Nat.min_self,hli]
  refine aaK (l2:=[opV Y.1.1 dsl]) d2 (stg []).sep (Row.readW1 rg (stg []).sep rfl (by decide)) (t:=86) (by kernel_rfl) vW rfl (by simp[opV,qg,Sl.v]) (by rw[hlz];simp;omega) (by decide) fun sn tagh Ih sth rh=>?_
  have sth:=sth [q] (.inr (by simp))
  have sh:qd [q] ro tagg Ig tagh Ih:=sth.s (by simp[hqm])
  refine⟨sn,rfl,?_⟩
  rw[Pa.inc i (by omega)]
  have h6q:(6:Nat)∉[q]:=by simp;omega
  have rdh:ji tagh Ih 35 A a0 b Y.2:=(((rdd.keep ste (by decide)).keep stf (by decide)).keep (stg [])).keep sth (by simp;omega)
  refine ih (i+1) sn (l++[Y.1.1]) Y.2 tagh Ih (by omega) (by simp[hli]) (Classical.not_not.1 c1) (fun hn=>g1 (by rw[hgl,hn])) (fun l' r' hs'=>?_) (stD.trans ((sdg.mono (by simp)).trans (sh.mono (by simp)))) ?_ rdh
  .rw[List.append_assoc]
   exact g2 (Y.1.1::l') r' (by rw[hgl,hs'])
  .exact qY.push (s:=out) d1 (fun i o d ho hd=>(d3 i o d ho hd).keepN sh h6q) rh (.inr ((kd.keepS sdg (by simp)).keepS sh h6q).held)
theorem aii{q1 q2:Nat}{s1 s2:Sl}{ops:List MOp}{Q:Bool->AH->Prop}(h1:qY ro tag I q1 s1 ops)(h2:qY ro tag I q2 s2 ops)(hq1:q1%64≠0)(hq2:q2%64≠0)(h12:q1≠q2)(h26:q2≠6)(hl:ops.length<=2199023255488)
  (hq3:q1%64≠47) (hq4:q2%64≠47) (hQ:∀ tag' I',qd [0,47] ro tag I tag' I'->Q true I'):uQ B ro s1 s2 I Q:=by
 refine aez fun hs=>?_
 unfold aan
 have hl1:=(h1.d hs).1
 have hl2:=(h2.d hs).1
 rw[if_neg (by rw[hl1,hl2];exact fun h=>h rfl)]
 suffices∀m j tag4 I4,j+m=ops.length->qd [0,47] ro tag I tag4 I4->lfpD (xZ B ro s1 s2 Q) (j:Int) I4 from this _ 0 tag I (Nat.zero_add _) (qd.refl hs)
 intro m
 induction m with
 | zero=>
  intro j tag4 I4 hj st4
  refine lfpD.intro ?_
  unfold xZ
  rw[if_neg (by omega)]
  unfold yF
  exact hQ tag4 I4 st4
 | succ m ih=>
  intro j tag4 I4 hj st4
  have hjl:j<ops.length:=by omega
  have hs4:=st4.sep
  have ho:=List.getElem?_eq_getElem hjl
  obtain⟨dd1,a1,a2,a3⟩:=h1.keepS st4 (by simp[hq1,hq3]) (by decide)
  obtain⟨dd2,b1,b2,b3⟩:=h2.keepS st4 (by simp[hq2,hq4]) (by decide)
  have hd1:dd1[j]?=some dd1[j]:=List.getElem?_eq_getElem (by omega)
  have hd2:dd2[j]?=some dd2[j]:=List.getElem?_eq_getElem (by omega)
  obtain⟨c1,e1,t1,g1⟩:=wj.get a2 hs4 (j:=j) (x:=opV ops[j] dd1[j]) (by rw[List.getElem?_zipWith,ho,hd1])
  obtain⟨c2,e2,t2,g2⟩:=wj.get b2 hs4 (j:=j) (x:=opV ops[j] dd2[j]) (by rw[List.getElem?_zipWith,ho,hd2])
  have k1:=a3 j _ _ ho hd1
  have k2:=b3 j _ _ ho hd2
  generalize ops[j]=o at g1 g2 k1 k2
  generalize dd1[j]=u1 at g1 k1
  generalize dd2[j]=u2 at g2 k2
  refine lfpD.intro ?_
  unfold xZ
  rw[if_pos (by omega)]
  have hX:∃ ob,I4 c2=some ob:=by
   rcases b2 with⟨rfl,_⟩ | ⟨b',cs,hb',_,hx,_⟩
   .cases e2
   .rw[e2]at hb';cases hb';exact⟨_,hx⟩
  refine pO c2 ?_
  have hsL:SL.Sep (join ro (SL.one I4 c2)) (SL.del I4 c2):=hs4.lent
  refine⟨_,e1,by omega,by omega,_,e2,by omega,by omega,o.kind,S o.path,u2,o.ver,o.eph,o.seq,wr 0 fun i v hv=>?_,o.kind,S o.path,u1,o.ver,o.eph,o.seq,wr 0 fun i v hv=>?_,?_⟩
  .rw[Nat.zero_add,Int.toNat_natCast,wN,wN,Nat.zero_add]
   exact aiJ (a:=⟨c2,j*6+i,none⟩) (g2 i v hv)
  .rw[Nat.zero_add,Int.toNat_natCast,wN,wN,Nat.zero_add,aia]
   exact g1 i v hv
  refine ql (tag:=tag4) 0 hsL fun X6 tag5 I5 st5 r5=>?_
  refine ql (tag:=tag5) 47 (st5 []).sep fun X7 tag6 I6 st6 r6=>?_
  refine afG (r5.keep (st6 [])) (st6 []).sep rfl (by simp[qg,Sl.v]) fun I7 st7 r7 _=>?_
  refine afG (r6.keep st7 (by decide)) st7.sep rfl (by simp[qg,Sl.v]) fun I8 st8 r8 _=>?_
  intro hdis
  have sA:qf [0,47] (join ro (SL.one I4 c2)) tag4 (SL.del I4 c2) tag6 I8:=(st5 _).trans ((st6 _).trans ((st7.mono (by simp)).trans (st8.mono (by simp))))
  have stB:=sA.back hs4 hdis hX
  have sB:qd [0,47] ro tag4 I4 _ _:=stB.s (by decide)
  have r6B:=(r7.keep st8 (by decide)).back (r':=tag4 c2) hdis hX
  have r7B:=r8.back (r':=tag4 c2) hdis hX
  have hsB:=stB.sep
  obtain⟨p6,hp6,g6⟩:=r6B.ptr hsB (by simp)
  cases hp6
  obtain⟨p7,hp7,g7⟩:=r7B.ptr hsB (by simp)
  cases hp7
  refine⟨_,by have:=g6 0 _ rfl;rwa [Nat.zero_mul,yk]at this,_,by have:=g7 0 _ rfl;rwa [Nat.zero_mul,yk]at this,?_⟩
  rw[if_neg (by simp)]
  refine⟨_,g6 1 _ rfl,_,g7 1 _ rfl,?_⟩
  rw[show(!(decide (S o.path=S o.path)))=false by simp]
  unfold xE
  rw[if_neg (by simp)]
  refine⟨_,g6 2 _ rfl,_,g7 2 _ rfl,?_⟩
  refine afm ((k1.keepS sB).read hsB) ((k2.keepS sB).read hsB) ?_
  rw[decide_eq_true rfl]
  unfold xD
  rw[if_neg (by simp)]
  refine⟨_,g6 3 _ rfl,_,g7 3 _ rfl,?_⟩
  rw[show(!(decide (o.ver=o.ver)))=false by simp]
  unfold xB
  rw[if_neg (by simp)]
  refine⟨_,g6 4 _ rfl,_,g7 4 _ rfl,?_⟩
  rw[show(!(o.eph == o.eph))=false by simp]
  unfold xA
  rw[if_neg (by simp)]
  refine⟨_,g6 5 _ rfl,_,g7 5 _ rfl,?_⟩
  rw[show(!(o.seq == o.seq))=false by simp]
  unfold xz
  rw[if_neg (by simp),Pa.inc j (by omega)]
  exact ih (j+1) _ _ (by omega) (st4.trans sB)
end Zt
namespace Zt
open Go SL G Pa Wi
variable{B:World}{ro I I':AH}{tag tag':Nat->Nat}{L:List Nat}
theorem qY.allB{tag1:Nat->Nat}{τ:AH}{q:Nat}{s:Sl}{ops:List MOp}(h:qY (fun _=>none) tag1 τ q s ops)(hd:qz I τ)(tag:Nat->Nat):qY (fun _=>none) (vV I tag tag1) (join I τ) q s ops:=by
 obtain⟨ds,h1,h2,h3⟩:=h
 refine⟨ds,h1,afQ h2 hd tag,fun i o d ho hd'=>?_⟩
 rcases h3 i o d ho hd' with h | h
 .exact .inl h
 .exact .inr (vg.allB h hd tag)
theorem akm{a0:Sl}{b:Str}{q:Nat}{Q:Sl->Bool->AH->Prop}(hq:q<64)(hq0:q≠0)(hq6:q≠6)(hq35:q≠35)(hr:SL.qy ro I a0 (b.map vU))(hsep:SL.Sep ro I)(hc:a0.len<=a0.cap)(hl:b.length<=140737488355328)
  (hno:jE b=none->∀ s tag' I',(∀R,qf R ro tag I tag' I')->Q s false I')
  (hyes:∀ l,jE b=some l->∀ s tag' I',(∀R,qf R ro tag I tag' I')->qY (fun _=>none) tag' I' q s l->Q s true I'):ug B ro a0 I Q:=by
 refine aeA ?_
 have base:ug B (join ro I) a0 (fun _=>none) fun r0 r1 τ=>SL.Sep (join ro I) τ->qz I τ->Q r0 r1 (join I τ):=by
  refine ajE (tag:=T7) hq hq0 hq6 hq35 (hr.all hsep) hc hl (fun hn s tag1 τ st hτ hd=>hno hn s _ _ (uD (tag1:=tag1) hsep hd hτ tag)) fun l hg s tag1 τ st r hτ hd=>hyes l hg s _ _ (uD (tag1:=tag1) hsep hd hτ tag) (r.allB hd tag)
 exact qb.mono base fun v τ ⟨r0,r1,hv,q⟩ h1 h2=>⟨r0,r1,hv,q h1 h2⟩
theorem ji.outR{q X:Nat}{s:Sl}{l:Str}{rd:Rd}(h:ji tag I q X s l rd)(hq:q∉L):ji tag (SL.vt tag L I) q X s l rd:=by
 obtain⟨p,h1,h2,h3⟩:=h
 exact⟨p,h1,h2,h3.outR hq⟩
theorem ji.backR{q X:Nat}{s:Sl}{l:Str}{rd:Rd}{tag1:Nat->Nat}{τ:AH}(h:ji tag1 τ q X s l rd)(hd:qz (SL.inR tag L I) τ):ji (tagB tag tag1 L I) (join (SL.inR tag L I) τ) q X s l rd:=by
 obtain⟨p,h1,h2,h3⟩:=h
 exact⟨p,h1,h2,h3.backR hd⟩
theorem Row.cap{r:Nat}{e:TypeId}{s:Sl}{l:List Value}(h:Row tag I r e s l):s.len<=s.cap:=by
 rcases h with⟨rfl,rfl⟩ | ⟨b,cs,_,_,_,_,_,h,_⟩
 .exact Nat.le_refl _
 .exact h
end Zt
namespace G
open Go SL
variable{B:World}{ro I:AH}
def vG(B:World)(ro:AH)(u0:Nat)(u1:Sl)(Q:Sl->Bool->AH->Prop)(u2:Int)(I:AH):=
 pn I fun U I=>
 ∃u3,qa (join ro U) (fun _=>none) ((⟨u0,0,none⟩:Addr).add 1)=some (.string u3)/\
 ∃u4,qa (join ro U) (fun _=>none) ((⟨u0,0,none⟩:Addr).add 2)=some (.int .i64 u4)/\
 ∃u5,qa (join ro U) (fun _=>none) ((⟨u0,0,none⟩:Addr).add 3)=some (.int .i64 u5)/\
 ∃u6,qa (join ro U) (fun _=>none) ((⟨u0,0,none⟩:Addr).add 4)=some (.int .i64 u6)/\
 ∃u7,qa (join ro U) (fun _=>none) ((⟨u0,0,none⟩:Addr).add 5)=some (.int .i64 u7)/\
 ∃u8,qa (join ro U) (fun _=>none) ((⟨u0,0,none⟩:Addr).add 6)=some (.int .i64 u8)/\
 ∃u9,qa (join ro U) (fun _=>none) ((⟨u0,0,none⟩:Addr).add 7)=some (.int .i64 u9)/\
 ∃u10,qa (join ro U) (fun _=>none) ((⟨u0,0,none⟩:Addr).add 9)=some (.string u10)/\
 ∃u11,qa (join ro U) (fun _=>none) ((⟨u0,0,none⟩:Addr).add 11)=some (.int .i64 u11)/\
 ∃u12,qa (join ro U) (fun _=>none) ((⟨u0,0,none⟩:Addr).add 12)=some (Sl.v u12)/\
 ∃u13,qa (join ro U) (fun _=>none) ((⟨u0,0,none⟩:Addr).add 12)=some (Sl.v u13)/\
 ∃u14,qa (join ro U) I ⟨u0,0,none⟩=some (.int .i64 u14)/\
 vX B (join ro U) u14 I fun u15 I=>
 awp prog (join ro U) (convert 9 24 (.string u3)) (fun v I=>
  (∃(u16:Sl),v=Sl.v u16/\
  xS B (join ro U) u16 I fun u17 I=>
  nw (join ro U) I (.cells #[.int .i64 u4,.int .i64 u5,.int .i64 u6,.int .i64 u7,.int .i64 u8,.int .i64 u9] 3) fun u18 I=>
  pt B (join ro U) (⟨some ⟨u18,0,none⟩,6,6⟩:Sl) I fun u19 I=>
  xS B (join ro U) u1 I fun u20 I=>
  awp prog (join ro U) (convert 9 24 (.string u10)) (fun v I=>
   (∃(u21:Sl),v=Sl.v u21/\
   xS B (join ro U) u21 I fun u22 I=>
   nw (join ro U) I (.cells #[.int .i64 u2,.int .i64 u11,.int .i64 (u12.len:Int)] 3) fun u23 I=>
   pt B (join ro U) (⟨some ⟨u23,0,none⟩,3,3⟩:Sl) I fun u24 I=>
   pt B (join ro U) u13 I fun u25 I=>
   nw (join ro U) I (.cells #[Sl.v u15,Sl.v u17,Sl.v u19,Sl.v u20,Sl.v u22,Sl.v u24,Sl.v u25] 24) fun u26 I=>
   jV B (join ro U) (⟨some ⟨u26,0,none⟩,7,7⟩:Sl) I fun u27 I=>
   (qz U I->(fun I=>
    if 32768<(u27.len:Int)then
    Q (⟨none,0,0⟩:Sl) false I
    else
    Q u27 true I) (join U I)))) I)) I
def zH(B:World)(ro:AH)(u0:Nat)(u1:Sl)(Q:Sl->Bool->AH->Prop)(u2:Bool)(I:AH):=
 if u2=true then
 Q (⟨none,0,0⟩:Sl) false I
 else
 ∃u3,qa ro I ((⟨u0,0,none⟩:Addr).add 10)=some (.bool u3)/\
 if u3=true then
 vG B ro u0 u1 Q 1 I
 else
 vG B ro u0 u1 Q 0 I
def zI(B:World)(ro:AH)(u0:Nat)(u1:Sl)(Q:Sl->Bool->AH->Prop)(u2:Bool)(I:AH):=
 if u2=true then
 zH B ro u0 u1 Q true I
 else
 ∃u3,qa ro I ((⟨u0,0,none⟩:Addr).add 12)=some (Sl.v u3)/\
 aaI B ro u3 I fun u4 I=>
 zH B ro u0 u1 Q u4 I
def vk(B:World)(ro:AH)(u0:Nat)(u1:Sl)(Q:Sl->Bool->AH->Prop)(u2:Bool)(I:AH):=
 if u2=true then
 zI B ro u0 u1 Q true I
 else
 ∃u3,qa ro I ⟨u0,0,none⟩=some (.int .i64 u3)/\
 ∃u4,qa ro I ((⟨u0,0,none⟩:Addr).add 2)=some (.int .i64 u4)/\
 ∃u5,qa ro I ((⟨u0,0,none⟩:Addr).add 3)=some (.int .i64 u5)/\
 ∃u6,qa ro I ((⟨u0,0,none⟩:Addr).add 4)=some (.int .i64 u6)/\
 ∃u7,qa ro I ((⟨u0,0,none⟩:Addr).add 5)=some (.int .i64 u7)/\
 ∃u8,qa ro I ((⟨u0,0,none⟩:Addr).add 6)=some (.int .i64 u8)/\
 ∃u9,qa ro I ((⟨u0,0,none⟩:Addr).add 7)=some (.int .i64 u9)/\
 ∃u10,qa ro I ((⟨u0,0,none⟩:Addr).add 11)=some (.int .i64 u10)/\
 nw ro I (.cells #[.int .i64 u3,.int .i64 u4,.int .i64 u5,.int .i64 u6,.int .i64 u7,.int .i64 u8,.int .i64 u9,.int .i64 u10] 3) fun u11 I=>
 aaI B ro (⟨some ⟨u11,0,none⟩,8,8⟩:Sl) I fun u12 I=>
 zI B ro u0 u1 Q u12 I
def aap(B:World)(ro:AH)(a0_0:Int)(a0_1:ByteArray)(a0_2 a0_3 a0_4 a0_5 a0_6 a0_7:Int)(a0_8:Sl)(a0_9:ByteArray)(a0_10:Bool)(a0_11:Int)(a0_12:Sl)(I:AH)(Q:Sl->Bool->AH->Prop):=
 nw ro I (.cells #[.int .i64 a0_0,.string a0_1,.int .i64 a0_2,.int .i64 a0_3,.int .i64 a0_4,.int .i64 a0_5,.int .i64 a0_6,.int .i64 a0_7,Sl.v a0_8,.string a0_9,.bool a0_10,.int .i64 a0_11,Sl.v a0_12] 88) fun u0 I=>
 ∃u1,qa ro I ((⟨u0,0,none⟩:Addr).add 8)=some (Sl.v u1)/\
 acb B ro u1 I fun u2 u3 I=>
 if¬(u3=0)then
 vk B ro u0 u2 Q true I
 else
 ∃u4,qa ro I ((⟨u0,0,none⟩:Addr).add 12)=some (Sl.v u4)/\
 vk B ro u0 u2 Q (decide (7<(u4.len:Int))) I
theorem aeB{a0_0:Int}{a0_1:ByteArray}{a0_2 a0_3 a0_4 a0_5 a0_6 a0_7:Int}{a0_8:Sl}{a0_9:ByteArray}{a0_10:Bool}{a0_11:Int}{a0_12:Sl}{Q:Sl->Bool->AH->Prop}(h:Sep ro I->aap B ro a0_0 a0_1 a0_2 a0_3 a0_4 a0_5 a0_6 a0_7 a0_8 a0_9 a0_10 a0_11 a0_12 I Q):pd B ro a0_0 a0_1 a0_2 a0_3 a0_4 a0_5 a0_6 a0_7 a0_8 a0_9 a0_10 a0_11 a0_12 I Q:=by
 refine zb h func31 ntmps31 fun h=>?_;unfold aap at h;refine z3 ?_;refine zA (vq rfl rfl) h fun u0 h=>?_;iterate 2 refine zp ?_
 refine z4 ?_;refine zf underlying88 ae8 ?_;refine zL underlying86 h fun u1 h=>?_;refine zc func92 h ?_;rintro v I ⟨u2,u3,rfl,h⟩;iterate 5 refine zp ?_
 refine z2 (AW.seq (z3 ?_))
 iterate 3 refine zp ?_
 refine qq 5 (!(decide (u3=0))) (qt decide_eq_true_iff) h (fun fr I=> ∃(u4:Bool),qk [(1,.pointer (some ⟨u0,0,none⟩)),(4,Sl.v u2),(21,.bool u4)] fr/\vk B ro u0 u2 Q u4 I) ?_ ?_ ?_
 .intro h e2 hk2;iterate 4 refine zn e2 ?_
  refine zk e2 ?_;exact hk2 _ _ ⟨_,FL,h⟩
 .intro h e2 hk2;refine qr (qx rfl underlying88 rfl xR (by decide) rfl) rfl rfl rfl rfl e2 ?_
  obtain⟨u5,hc,h⟩:=h
  refine Lyb rfl rfl rfl rfl e2 (qM rfl underlying55 rfl rfl hc ?_)
  refine qr (qJ rfl rfl underlying55 rfl rfl) rfl rfl rfl rfl e2 ?_
  refine zy e2 ?_;refine zk e2 ?_;exact hk2 _ _ ⟨_,FL,h⟩
 rintro fr I ⟨u4,hl,h⟩;unfold vk at h;refine Lfr hl ?_
 refine zp ?_;refine qq 19 u4 Iff.rfl h (fun fr I=> ∃(u6:Bool),qk [(1,.pointer (some ⟨u0,0,none⟩)),(4,Sl.v u2),(41,.bool u6)] fr/\zI B ro u0 u2 Q u6 I) ?_ ?_ ?_
 .intro h e8 hk8;iterate 18 refine zn e8 ?_
  refine zk e8 ?_;exact hk8 _ _ ⟨_,FL,h⟩
 .intro h e8 hk8;refine qr (qx rfl underlying88 rfl ty3 (by decide) rfl) rfl rfl rfl rfl e8 ?_
  obtain⟨u7,hc,h⟩:=h
  refine Lyb rfl rfl rfl rfl e8 (qM rfl underlying3 rfl rfl hc ?_)
  refine qr (qx rfl underlying88 rfl ty3 (by decide) rfl) rfl rfl rfl rfl e8 ?_
  obtain⟨u8,hc,h⟩:=h
  refine Lyb rfl rfl rfl rfl e8 (qM rfl underlying3 rfl rfl hc ?_)
  refine qr (qx rfl underlying88 rfl ty3 (by decide) rfl) rfl rfl rfl rfl e8 ?_
  obtain⟨u9,hc,h⟩:=h
  refine Lyb rfl rfl rfl rfl e8 (qM rfl underlying3 rfl rfl hc ?_)
  refine qr (qx rfl underlying88 rfl ty3 (by decide) rfl) rfl rfl rfl rfl e8 ?_
  obtain⟨u10,hc,h⟩:=h
  refine Lyb rfl rfl rfl rfl e8 (qM rfl underlying3 rfl rfl hc ?_)
  refine qr (qx rfl underlying88 rfl ty3 (by decide) rfl) rfl rfl rfl rfl e8 ?_
  obtain⟨u11,hc,h⟩:=h
  refine Lyb rfl rfl rfl rfl e8 (qM rfl underlying3 rfl rfl hc ?_)
  refine qr (qx rfl underlying88 rfl ty3 (by decide) rfl) rfl rfl rfl rfl e8 ?_
  obtain⟨u12,hc,h⟩:=h
  refine Lyb rfl rfl rfl rfl e8 (qM rfl underlying3 rfl rfl hc ?_)
  refine qr (qx rfl underlying88 rfl ty3 (by decide) rfl) rfl rfl rfl rfl e8 ?_
  obtain⟨u13,hc,h⟩:=h
  refine Lyb rfl rfl rfl rfl e8 (qM rfl underlying3 rfl rfl hc ?_)
  refine qr (qx rfl underlying88 rfl ty3 (by decide) rfl) rfl rfl rfl rfl e8 ?_
  obtain⟨u14,hc,h⟩:=h
  refine Lyb rfl rfl rfl rfl e8 (qM rfl underlying3 rfl rfl hc ?_)
  refine Lyb rfl rfl rfl rfl e8 (ajK (wI (vs:=[(0,.int .i64 u7),(1,.int .i64 u8),(2,.int .i64 u9),(3,.int .i64 u10),(4,.int .i64 u11),(5,.int .i64 u12),(6,.int .i64 u13),(7,.int .i64 u14)]) (cs:= #[.int .i64 u7,.int .i64 u8,.int .i64 u9,.int .i64 u10,.int .i64 u11,.int .i64 u12,.int .i64 u13,.int .i64 u14]) rfl underlying55 ty3 (by decide) rfl (by kernel_rfl)) fun u15 g1 g2=>?_)
  replace h:=h u15 g1 g2
  refine Lyb rfl rfl rfl rfl e8 (qF rfl func48 rfl rfl rfl (qb.mono h ?_))
  rintro v I ⟨u16,rfl,h⟩;refine zk e8 ?_;exact hk8 _ _ ⟨_,FL,h⟩
 rintro fr I ⟨u6,hl,h⟩;unfold zI at h;refine Lfr hl ?_
 refine zp ?_;refine qq 4 u6 Iff.rfl h (fun fr I=> ∃(u17:Bool),qk [(1,.pointer (some ⟨u0,0,none⟩)),(4,Sl.v u2),(46,.bool u17)] fr/\zH B ro u0 u2 Q u17 I) ?_ ?_ ?_
 .intro h e28 hk28;iterate 3 refine zn e28 ?_
  refine zk e28 ?_;exact hk28 _ _ ⟨_,FL,h⟩
 .intro h e28 hk28;refine qr (qx rfl underlying88 rfl xR (by decide) rfl) rfl rfl rfl rfl e28 ?_
  obtain⟨u18,hc,h⟩:=h
  refine Lyb rfl rfl rfl rfl e28 (qM rfl underlying55 rfl rfl hc ?_)
  refine Lyb rfl rfl rfl rfl e28 (qF rfl func48 rfl rfl rfl (qb.mono h ?_))
  rintro v I ⟨u19,rfl,h⟩;refine zk e28 ?_;exact hk28 _ _ ⟨_,FL,h⟩
 rintro fr I ⟨u17,hl,h⟩;unfold zH at h;refine Lfr hl ?_
 refine z2 ?_;refine zj h (fun h=>?_) fun h=>?_
 .refine z3 ?_;iterate 2 refine zp ?_
  refine z2 ?_;refine AW.ret ?_;refine qi ?_;exact bR2 results31 rfl rfl ⟨_,_,rfl,h⟩
 refine AW.skip ?_;refine qc (z3 ?_);refine zp ?_;refine z2 ?_;refine AW.seqJ (fun fr I=> ∃(u20:Int),qk [(1,.pointer (some ⟨u0,0,none⟩)),(4,Sl.v u2),(6,.int .i64 u20)] fr/\vG B ro u0 u2 Q u20 I) ?_ ?_
 rotate_left
 .refine z3 ?_;refine zf underlying88 ty4 ?_;refine zL underlying4 h fun u21 h=>?_;refine z2 ?_;refine zj h (fun h=>?_) fun h=>?_
  rotate_left
  .refine AW.skip ?_;refine qc ?_;exact⟨_,FL,h⟩
  refine AW.reg ?_;refine zp ?_;refine z2 ?_;exact⟨_,FL,h⟩
 rintro fr I ⟨u20,hl,h⟩;refine AW.weaken ?_ hl (HLe.refl _)
 unfold vG at h;refine AW.seq ?_;refine AW.drawnL (fun i=>([0,3,2,0,0,1,2,0,0,0,0,0,0,0,0,0,0,0,0,1,2,0,2,0,0,1,2,0,0,0,0,0,0,1,2,0,0,2,1,2,0]:List Nat).getD i 2) [(1,2),(1,6),(1,20),(1,22),(1,26),(1,34),(1,37),(1,38),(1,39),(2,6),(2,20),(2,22),(2,26),(2,34),(2,37),(2,38),(2,39),(5,6),(5,20),(5,22),(5,26),(5,34),(5,37),(5,38),(5,39),(6,20),(6,22),(6,26),(6,34),(6,37),(6,38),(6,39),(19,20),(19,22),(19,26),(19,34),(19,37),(19,38),(19,39),(20,22),(20,26),(20,34),(20,37),(20,38),(20,39),(22,26),(22,34),(22,37),(22,38),(22,39),(25,26),(25,34),(25,37),(25,38),(25,39),(26,34),(26,37),(26,38),(26,39),(33,34),(33,37),(33,38),(33,39),(34,38),(34,39)] [0,3,4,7,8,9,10,11,12,13,14,15,16,17,18,21,23,24,27,28,29,30,31,32,35,36,1,2,5,6,19,20,22,25,26,33,34,37,38,39,40] mixed h (by decide+kernel) ?_
 clear h
 intro U I h
 refine zg underlying88 ty3 ?_;refine zg underlying88 ty9 ?_;obtain⟨u22,hc,h⟩:=h
 refine Dp rfl rfl rfl rfl (zS rfl underlying9 rfl rfl hc) ?_
 refine zg underlying88 ty3 ?_;obtain⟨u23,hc,h⟩:=h
 refine Dp rfl rfl rfl rfl (zS rfl underlying3 rfl rfl hc) ?_
 refine zg underlying88 ty3 ?_;obtain⟨u24,hc,h⟩:=h
 refine Dp rfl rfl rfl rfl (zS rfl underlying3 rfl rfl hc) ?_
 refine zg underlying88 ty3 ?_;obtain⟨u25,hc,h⟩:=h
 refine Dp rfl rfl rfl rfl (zS rfl underlying3 rfl rfl hc) ?_
 refine zg underlying88 ty3 ?_;obtain⟨u26,hc,h⟩:=h
 refine Dp rfl rfl rfl rfl (zS rfl underlying3 rfl rfl hc) ?_
 refine zg underlying88 ty3 ?_;obtain⟨u27,hc,h⟩:=h
 refine Dp rfl rfl rfl rfl (zS rfl underlying3 rfl rfl hc) ?_
 refine zg underlying88 ty3 ?_;obtain⟨u28,hc,h⟩:=h
 refine Dp rfl rfl rfl rfl (zS rfl underlying3 rfl rfl hc) ?_
 refine zq ?_;refine zg underlying88 ty9 ?_;obtain⟨u29,hc,h⟩:=h
 refine Dp rfl rfl rfl rfl (zS rfl underlying9 rfl rfl hc) ?_
 refine zq ?_;refine zg underlying88 ty3 ?_;obtain⟨u30,hc,h⟩:=h
 refine Dp rfl rfl rfl rfl (zS rfl underlying3 rfl rfl hc) ?_
 refine zg underlying88 xR ?_;obtain⟨u31,hc,h⟩:=h
 refine Dp rfl rfl rfl rfl (zS rfl underlying55 rfl rfl hc) ?_
 refine Dp rfl rfl rfl rfl (qJ rfl rfl underlying55 rfl rfl) ?_
 refine zg underlying88 xR ?_;obtain⟨u32,hc,h⟩:=h
 refine Dp rfl rfl rfl rfl (zS rfl underlying55 rfl rfl hc) ?_
 obtain⟨u33,hc,h⟩:=h
 refine Dr rfl rfl rfl rfl (vb rfl underlying3 rfl rfl hc) ?_
 refine Dg rfl rfl rfl rfl (qF rfl func52 rfl rfl rfl (qb.mono h ?_))
 rintro v I ⟨u34,rfl,h⟩;refine Dc rfl rfl rfl rfl (ahW rfl underlying9 underlying24 underlying5 rfl) (abd rfl rfl (qv _ h ?_))
 rintro v I ⟨u35,rfl,h⟩;refine Dg rfl rfl rfl rfl (qF rfl func51 rfl rfl rfl (qb.mono h ?_))
 rintro v I ⟨u36,rfl,h⟩;refine Da rfl rfl rfl rfl (wI (vs:=[(0,.int .i64 u23),(1,.int .i64 u24),(2,.int .i64 u25),(3,.int .i64 u26),(4,.int .i64 u27),(5,.int .i64 u28)]) (cs:= #[.int .i64 u23,.int .i64 u24,.int .i64 u25,.int .i64 u26,.int .i64 u27,.int .i64 u28]) rfl underlying55 ty3 (by decide) rfl rfl) fun u37 g1 g2=>?_
 replace h:=h u37 g1 g2
 refine Dg rfl rfl rfl rfl (qF rfl func49 rfl rfl rfl (qb.mono h ?_))
 rintro v I ⟨u38,rfl,h⟩;refine Dg rfl rfl rfl rfl (qF rfl func51 rfl rfl rfl (qb.mono h ?_))
 rintro v I ⟨u39,rfl,h⟩;refine Dc rfl rfl rfl rfl (ahW rfl underlying9 underlying24 underlying5 rfl) (abd rfl rfl (qv _ h ?_))
 rintro v I ⟨u40,rfl,h⟩;refine Dg rfl rfl rfl rfl (qF rfl func51 rfl rfl rfl (qb.mono h ?_))
 rintro v I ⟨u41,rfl,h⟩;refine Da rfl rfl rfl rfl (wI (vs:=[(0,.int .i64 u20),(1,.int .i64 u30),(2,.int .i64 (u31.len:Int))]) (cs:= #[.int .i64 u20,.int .i64 u30,.int .i64 (u31.len:Int)]) rfl underlying55 ty3 (by decide) rfl rfl) fun u42 g1 g2=>?_
 replace h:=h u42 g1 g2
 refine Dg rfl rfl rfl rfl (qF rfl func49 rfl rfl rfl (qb.mono h ?_))
 rintro v I ⟨u43,rfl,h⟩;refine Dg rfl rfl rfl rfl (qF rfl func49 rfl rfl rfl (qb.mono h ?_))
 rintro v I ⟨u44,rfl,h⟩;refine Da rfl rfl rfl rfl (wI (vs:=[(0,Sl.v u34),(1,Sl.v u36),(2,Sl.v u38),(3,Sl.v u39),(4,Sl.v u41),(5,Sl.v u43),(6,Sl.v u44)]) (cs:= #[Sl.v u34,Sl.v u36,Sl.v u38,Sl.v u39,Sl.v u41,Sl.v u43,Sl.v u44]) rfl underlying227 qV (by decide) rfl (by kernel_rfl)) fun u45 g1 g2=>?_
 replace h:=h u45 g1 g2
 refine Dg rfl rfl rfl rfl (qF rfl func50 rfl rfl rfl (qb.mono h ?_))
 rintro v I ⟨u46,rfl,h⟩;refine zq ?_;refine⟨_,wg.refl _,fun hdj=>?_⟩
 replace h:=h hdj
 refine qc (AW.seq (z3 ?_));refine zp ?_;refine zm (qJ rfl rfl underlying24 rfl rfl) ?_;refine zp ?_;refine z2 ?_;refine zi h (fun h=>?_) fun h=>?_
 .refine z3 ?_;iterate 2 refine zp ?_
  refine z2 ?_;refine AW.ret ?_;refine qi ?_;exact bR2 results31 rfl rfl ⟨_,_,rfl,h⟩
 refine AW.skip ?_;refine qc (z3 ?_);iterate 3 refine zp ?_
 refine z2 ?_;refine AW.ret ?_;exact bR2 results31 rfl rfl ⟨_,_,rfl,h⟩
def zo(B:World)(ro:AH)(a0:Sl)(u0 u1:Nat)(u2 u3:Int)(u4:Bool)(Q:Int->ByteArray->Int->Int->Int->Int->Int->Int->Sl->ByteArray->Bool->Int->Sl->Bool->AH->Prop)(u5:Bool)(I:AH):=
 if((((u5=true)\/(¬(u4=true)))\/(1<u2))\/(7<u3))\/(32768<(a0.len:Int))then
 stN ⟨u0,0,none⟩ (fun I=>
  ∃u6 u7 u8 u9 u10 u11 u12 u13 u14 u15 u16 u17 u18,qj ro I ⟨u0,0,none⟩ 0 [.int .i64 u6,.string u7,.int .i64 u8,.int .i64 u9,.int .i64 u10,.int .i64 u11,.int .i64 u12,.int .i64 u13,Sl.v u14,.string u15,.bool u16,.int .i64 u17,Sl.v u18]/\
  Q u6 u7 u8 u9 u10 u11 u12 u13 u14 u15 u16 u17 u18 false I) [.int .i64 0,.string ByteArray.empty,.int .i64 0,.int .i64 0,.int .i64 0,.int .i64 0,.int .i64 0,.int .i64 0,Sl.v (⟨none,0,0⟩:Sl),.string ByteArray.empty,.bool false,.int .i64 0,Sl.v (⟨none,0,0⟩:Sl)] 0 I
 else
 ∃u19 u20 u21 u22 u23 u24 u25 u26 u27 u28 u29 u30 u31,qj ro I ⟨u1,0,none⟩ 0 [.int .i64 u19,.string u20,.int .i64 u21,.int .i64 u22,.int .i64 u23,.int .i64 u24,.int .i64 u25,.int .i64 u26,Sl.v u27,.string u28,.bool u29,.int .i64 u30,Sl.v u31]/\
 stN ⟨u0,0,none⟩ (fun I=>
 ∃u32 u33 u34 u35 u36 u37 u38 u39 u40 u41 u42 u43 u44,qj ro I ⟨u0,0,none⟩ 0 [.int .i64 u32,.string u33,.int .i64 u34,.int .i64 u35,.int .i64 u36,.int .i64 u37,.int .i64 u38,.int .i64 u39,Sl.v u40,.string u41,.bool u42,.int .i64 u43,Sl.v u44]/\
 Q u32 u33 u34 u35 u36 u37 u38 u39 u40 u41 u42 u43 u44 true I) [.int .i64 u19,.string u20,.int .i64 u21,.int .i64 u22,.int .i64 u23,.int .i64 u24,.int .i64 u25,.int .i64 u26,Sl.v u27,.string u28,.bool u29,.int .i64 u30,Sl.v u31] 0 I
def jK(B:World)(ro:AH)(a0:Sl)(u0 u1 u2:Nat)(u3:Sl)(u4 u5:Int)(Q:Int->ByteArray->Int->Int->Int->Int->Int->Int->Sl->ByteArray->Bool->Int->Sl->Bool->AH->Prop)(I:AH):=
 ug B ro u3 I fun u6 u7 I=>
 stN ((⟨u1,0,none⟩:Addr).add 8) (fun I=>
 stN ((⟨u1,0,none⟩:Addr).add 10) (fun I=>
  ∃u8,qa ro I ((⟨u2,0,none⟩:Addr).add 2)=some (.int .i64 u8)/\
  if¬(u8=0)then
  zo B ro a0 u0 u1 u4 u5 u7 Q true I
  else
  zZ B ro (some ⟨u2,0,none⟩) I fun u9 I=>
  zo B ro a0 u0 u1 u4 u5 u7 Q (!(decide (u9=0))) I) [.bool (decide (u4=1))] 0 I) [Sl.v u6] 0 I
def xF(B:World)(ro:AH)(a0:Sl)(u0 u1 u2:Nat)(u3:Sl)(u4 u5:Int)(Q:Int->ByteArray->Int->Int->Int->Int->Int->Int->Sl->ByteArray->Bool->Int->Sl->Bool->AH->Prop):Int->AH->(Int->AH->Prop)->Prop:=fun u6 I Y29=>
 if(u6<u5)/\(u6<8)then
 pn I fun U I=>
  ∃u7,qa (join ro U) (fun _=>none) ((⟨u1,0,none⟩:Addr).add 12)=some (Sl.v u7)/\
  qG B (join ro U) (some ⟨u2,0,none⟩) I fun u8 I=>
  nw (join ro U) I (.cells #[.int .i64 u8] 3) fun u9 I=>
  (qz U I->(fun I=>
  awp prog ro (Builtin.append_ #[55,55] 55 #[Sl.v u7,Sl.v (⟨some ⟨u9,0,none⟩,1,1⟩:Sl)]) (fun v I=> ∃(u10:Sl),v=Sl.v u10/\
   stN ((⟨u1,0,none⟩:Addr).add 12) (fun I=>
   Y29 (i64.wrap (u6+1)) I) [Sl.v u10] 0 I) I) (join U I))
 else
 jK B ro a0 u0 u1 u2 u3 u4 u5 Q I
def aaq(B:World)(ro:AH)(a0:Sl)(I:AH)(Q:Int->ByteArray->Int->Int->Int->Int->Int->Int->Sl->ByteArray->Bool->Int->Sl->Bool->AH->Prop):=
 nw ro I (.cells #[.int .i64 0,.string ByteArray.empty,.int .i64 0,.int .i64 0,.int .i64 0,.int .i64 0,.int .i64 0,.int .i64 0,Sl.v (⟨none,0,0⟩:Sl),.string ByteArray.empty,.bool false,.int .i64 0,Sl.v (⟨none,0,0⟩:Sl)] 88) fun u0 I=>
 nw ro I (.cells #[Sl.v a0,.int .i64 0,.int .i64 0] 147) fun u1 I=>
 qG B ro (some ⟨u1,0,none⟩) I fun u2 I=>
 nw ro I (.cells #[.int .i64 0,.string ByteArray.empty,.int .i64 0,.int .i64 0,.int .i64 0,.int .i64 0,.int .i64 0,.int .i64 0,Sl.v (⟨none,0,0⟩:Sl),.string ByteArray.empty,.bool false,.int .i64 0,Sl.v (⟨none,0,0⟩:Sl)] 88) fun u3 I=>
 stN ⟨u3,0,none⟩ (fun I=>
 zt B ro (some ⟨u1,0,none⟩) I fun u4 I=>
 awp prog ro (convert 24 9 (Sl.v u4)) (fun v I=>
  (∃(u5:ByteArray),v= .string u5/\
  stN ((⟨u3,0,none⟩:Addr).add 1) (fun I=>
   qG B ro (some ⟨u1,0,none⟩) I fun u6 I=>
   stN ((⟨u3,0,none⟩:Addr).add 2) (fun I=>
   qG B ro (some ⟨u1,0,none⟩) I fun u7 I=>
   stN ((⟨u3,0,none⟩:Addr).add 3) (fun I=>
    qG B ro (some ⟨u1,0,none⟩) I fun u8 I=>
    stN ((⟨u3,0,none⟩:Addr).add 4) (fun I=>
    qG B ro (some ⟨u1,0,none⟩) I fun u9 I=>
    stN ((⟨u3,0,none⟩:Addr).add 5) (fun I=>
     qG B ro (some ⟨u1,0,none⟩) I fun u10 I=>
     stN ((⟨u3,0,none⟩:Addr).add 6) (fun I=>
     qG B ro (some ⟨u1,0,none⟩) I fun u11 I=>
     stN ((⟨u3,0,none⟩:Addr).add 7) (fun I=>
      zt B ro (some ⟨u1,0,none⟩) I fun u12 I=>
      zt B ro (some ⟨u1,0,none⟩) I fun u13 I=>
      awp prog ro (convert 24 9 (Sl.v u13)) (fun v I=>
      (∃(u14:ByteArray),v= .string u14/\
       stN ((⟨u3,0,none⟩:Addr).add 9) (fun I=>
       qG B ro (some ⟨u1,0,none⟩) I fun u15 I=>
       qG B ro (some ⟨u1,0,none⟩) I fun u16 I=>
       stN ((⟨u3,0,none⟩:Addr).add 11) (fun I=>
        qG B ro (some ⟨u1,0,none⟩) I fun u17 I=>
        lfpD (xF B ro a0 u0 u3 u1 u12 u15 u17 Q) (0) I) [.int .i64 u16] 0 I) [.string u14] 0 I)) I) [.int .i64 u11] 0 I) [.int .i64 u10] 0 I) [.int .i64 u9] 0 I) [.int .i64 u8] 0 I) [.int .i64 u7] 0 I) [.int .i64 u6] 0 I) [.string u5] 0 I)) I) [.int .i64 u2,.string ByteArray.empty,.int .i64 0,.int .i64 0,.int .i64 0,.int .i64 0,.int .i64 0,.int .i64 0,Sl.v (⟨none,0,0⟩:Sl),.string ByteArray.empty,.bool false,.int .i64 0,Sl.v (⟨none,0,0⟩:Sl)] 0 I
theorem aeC{a0:Sl}{Q:Int->ByteArray->Int->Int->Int->Int->Int->Int->Sl->ByteArray->Bool->Int->Sl->Bool->AH->Prop}(h:Sep ro I->aaq B ro a0 I Q):uM B ro a0 I Q:=by
 refine zb h func34 ntmps34 fun h=>?_;unfold aaq at h;refine z3 ?_;refine zA (wH rfl jT) h fun u0 h=>?_;refine zp ?_;refine z4 ?_;refine zp ?_;refine zm (wV (vs:=[(0,Sl.v a0)]) (cs:= #[Sl.v a0,.int .i64 0,.int .i64 0]) rfl underlying147 ajS ajU rfl rfl) ?_;refine zA (vq rfl rfl) h fun u1 h=>?_;refine zp ?_;refine z4 ?_;refine zp ?_;refine zc func59 h ?_
 rintro v I ⟨u2,rfl,h⟩;refine zm (wV (vs:=[(0,.int .i64 u2)]) (cs:= #[.int .i64 u2,.string ByteArray.empty,.int .i64 0,.int .i64 0,.int .i64 0,.int .i64 0,.int .i64 0,.int .i64 0,Sl.v (⟨none,0,0⟩:Sl),.string ByteArray.empty,.bool false,.int .i64 0,Sl.v (⟨none,0,0⟩:Sl)]) rfl underlying88 jT ai8 rfl (by kernel_rfl)) ?_;refine zA (wH rfl jT) h fun u3 h=>?_;refine zs jT h fun I h=>?_
 refine z4 ?_;refine zp ?_;refine zc func60 h ?_;rintro v I ⟨u4,rfl,h⟩;refine zl (abd rfl rfl (qv _ h ?_))
 rintro v I ⟨u5,rfl,h⟩;refine zf underlying88 ty9 ?_;refine zs ty9 h fun I h=>?_;refine z4 ?_;refine zp ?_;refine zc func59 h ?_;rintro v I ⟨u6,rfl,h⟩;refine zf underlying88 ty3 ?_;refine zs ty3 h fun I h=>?_;refine z4 ?_;refine zp ?_;refine zc func59 h ?_;rintro v I ⟨u7,rfl,h⟩;refine zf underlying88 ty3 ?_;refine zs ty3 h fun I h=>?_;refine z4 ?_;refine zp ?_;refine zc func59 h ?_
 rintro v I ⟨u8,rfl,h⟩;refine zf underlying88 ty3 ?_;refine zs ty3 h fun I h=>?_;refine z4 ?_;refine zp ?_;refine zc func59 h ?_;rintro v I ⟨u9,rfl,h⟩;refine zf underlying88 ty3 ?_;refine zs ty3 h fun I h=>?_;refine z4 ?_;refine zp ?_;refine zc func59 h ?_;rintro v I ⟨u10,rfl,h⟩;refine zf underlying88 ty3 ?_;refine zs ty3 h fun I h=>?_;refine z4 ?_;refine zp ?_;refine zc func59 h ?_
 rintro v I ⟨u11,rfl,h⟩;refine zf underlying88 ty3 ?_;refine zs ty3 h fun I h=>?_;refine z4 ?_;refine zp ?_;refine zc func60 h ?_;rintro v I ⟨u12,rfl,h⟩;refine zp ?_;refine z4 ?_;refine zp ?_;refine zc func60 h ?_;rintro v I ⟨u13,rfl,h⟩;refine zl (abd rfl rfl (qv _ h ?_))
 rintro v I ⟨u14,rfl,h⟩;refine zf underlying88 ty9 ?_;refine zs ty9 h fun I h=>?_;refine z4 ?_;refine zp ?_;refine zc func59 h ?_;rintro v I ⟨u15,rfl,h⟩;refine zp ?_;refine z4 ?_;refine zp ?_;refine zc func59 h ?_;rintro v I ⟨u16,rfl,h⟩;refine zf underlying88 ty3 ?_;refine zs ty3 h fun I h=>?_;refine z4 ?_;refine zp ?_;refine zc func59 h ?_;rintro v I ⟨u17,rfl,h⟩;refine zp ?_
 refine z2 ?_;refine AW.seqJ (fun fr I=>qk [(0,Sl.v a0),(2,.pointer (some ⟨u0,0,none⟩)),(4,.pointer (some ⟨u1,0,none⟩)),(5,.pointer (some ⟨u3,0,none⟩)),(6,Sl.v u12),(7,.int .i64 u15),(8,.int .i64 u17)] fr/\jK B ro a0 u0 u3 u1 u12 u15 u17 Q I) ?_ ?_
 rotate_left
 .refine z3 ?_;refine zp ?_;refine z2 (AW.block ?_)
  refine qn.loop (fr':=[(0,Sl.v a0),(2,.pointer (some ⟨u0,0,none⟩)),(4,.pointer (some ⟨u1,0,none⟩)),(5,.pointer (some ⟨u3,0,none⟩)),(6,Sl.v u12),(7,.int .i64 u15),(8,.int .i64 u17),(9,.int .i64 0)]) ?_ FL
  refine h (fun u18 I=>qn _ _ _ _ _ _ [(0,Sl.v a0),(2,.pointer (some ⟨u0,0,none⟩)),(4,.pointer (some ⟨u1,0,none⟩)),(5,.pointer (some ⟨u3,0,none⟩)),(6,Sl.v u12),(7,.int .i64 u15),(8,.int .i64 u17),(9,.int .i64 u18)] I) ?_
  rintro u18 I Y29 hY29 h
  show AW _ _ _ _ _ _ _ _
  unfold xF at h;refine AW.seq (z3 ?_);iterate 4 refine zp ?_
  refine qX 3 (decide (u18<u17)) [(0,Sl.v a0),(2,.pointer (some ⟨u0,0,none⟩)),(4,.pointer (some ⟨u1,0,none⟩)),(5,.pointer (some ⟨u3,0,none⟩)),(6,Sl.v u12),(7,.int .i64 u15),(8,.int .i64 u17),(9,.int .i64 u18),(59,.bool ((decide (u18<u17)) && (decide (u18<8))))] ?_ ?_ ?_
  .intro e3 hk3
   refine zy e3 ?_;refine zy e3 ?_;refine zk e3 ?_;exact hk3 _ (Fe e3)
  .intro e3 hk3
   iterate 2 refine zn e3 ?_
   refine zk e3 ?_;exact hk3 _ (Fe e3)
  intro fr hl
  refine Lfr hl ?_
  refine z2 ?_;refine AW.iff rfl (jA decide_eq_true_iff decide_eq_true_iff) h (fun h=>?_) (fun h=>?_)
  rotate_left
  .refine AW.exit ?_;refine qR (qR ?_);refine wK ?_
   refine qc ?_;exact⟨FL,h⟩
  refine AW.skip ?_;refine qc (AW.seq (AW.block ?_));refine AW.drawn2 (fun i=>([0,0,0,2,1,2,0,2]:List Nat).getD i 2) [(0,1),(0,5),(2,3),(2,4),(2,5)] [0,1,2,3,4] [5,6,7] mixed h (by decide+kernel) ?_
  clear h
  intro U I h
  refine zg underlying88 xR ?_;obtain⟨u19,hc,h⟩:=h
  refine Dp rfl rfl rfl rfl (zS rfl underlying55 rfl rfl hc) ?_
  refine zq ?_;refine Dg rfl rfl rfl rfl (qF rfl func59 rfl rfl rfl (qb.mono h ?_))
  rintro v I ⟨u20,rfl,h⟩;refine Da rfl rfl rfl rfl (wI (vs:=[(0,.int .i64 u20)]) (cs:= #[.int .i64 u20]) rfl underlying55 ty3 (by decide) rfl rfl) fun u21 g1 g2=>?_
  replace h:=h u21 g1 g2
  refine⟨_,wg.refl _,fun hdj=>?_⟩
  replace h:=h hdj
  refine Dg rfl rfl rfl rfl (jz (s:=Builtin.append_ #[55,55] 55 #[Sl.v u19,Sl.v (⟨some ⟨u21,0,none⟩,1,1⟩:Sl)]) rfl rfl (fun _=>rfl) (qv _ h ?_))
  rintro v I ⟨u22,rfl,h⟩;refine zg underlying88 xR ?_;refine Dg rfl rfl rfl rfl (aej rfl xR rfl rfl rfl rfl (us h fun I h=>?_))
  refine aat ?_
  refine wq (qc (AW.reg ?_));iterate 3 refine zp ?_
  refine z2 ?_;refine qn.head (fr':=[(0,Sl.v a0),(2,.pointer (some ⟨u0,0,none⟩)),(4,.pointer (some ⟨u1,0,none⟩)),(5,.pointer (some ⟨u3,0,none⟩)),(6,Sl.v u12),(7,.int .i64 u15),(8,.int .i64 u17),(9,.int .i64 (i64.wrap (u18+1)))]) ?_ FL
  exact hY29 _ _ h
 rintro fr I ⟨hl,h⟩;refine AW.weaken ?_ hl (HLe.refl _)
 unfold jK at h;refine z3 ?_;refine zp ?_;refine zc func96 h ?_;rintro v I ⟨u23,u24,rfl,h⟩;iterate 5 refine zp ?_
 refine z4 ?_;iterate 3 refine zp ?_
 refine zf underlying88 ae8 ?_;refine zs ae8 h fun I h=>?_;refine zf underlying88 ty4 ?_;refine zs ty4 h fun I h=>?_;refine z2 (AW.seq (z3 ?_))
 refine zp ?_;refine zm (wD rfl rfl) ?_;refine zf underlying147 ty3 ?_;refine zL underlying3 h fun u25 h=>?_;iterate 2 refine zp ?_
 refine qq 4 (!(decide (u25=0))) (qt decide_eq_true_iff) h (fun fr I=> ∃(u26:Bool),qk [(0,Sl.v a0),(2,.pointer (some ⟨u0,0,none⟩)),(5,.pointer (some ⟨u3,0,none⟩)),(7,.int .i64 u15),(8,.int .i64 u17),(11,.bool u24),(88,.bool u26)] fr/\zo B ro a0 u0 u3 u15 u17 u24 Q u26 I) ?_ ?_ ?_
 .intro h e5 hk5;iterate 3 refine zn e5 ?_
  refine zk e5 ?_;exact hk5 _ _ ⟨_,FL,h⟩
 .intro h e5 hk5;refine zy e5 ?_;refine Lyb rfl rfl rfl rfl e5 (qF rfl func61 rfl rfl rfl (qb.mono h ?_))
  rintro v I ⟨u27,rfl,h⟩;refine zy e5 ?_;refine zk e5 ?_;exact hk5 _ _ ⟨_,FL,h⟩
 rintro fr I ⟨u26,hl,h⟩;unfold zo at h;refine Lfr hl ?_
 refine zp ?_;refine qX 3 u26 [(0,Sl.v a0),(2,.pointer (some ⟨u0,0,none⟩)),(5,.pointer (some ⟨u3,0,none⟩)),(7,.int .i64 u15),(8,.int .i64 u17),(92,.bool (u26 || (!u24)))] ?_ ?_ ?_
 .intro e10 hk10
  iterate 2 refine zn e10 ?_
  refine zk e10 ?_;exact hk10 _ (Fe e10)
 .intro e10 hk10
  refine zy e10 ?_;refine zy e10 ?_;refine zk e10 ?_;exact hk10 _ (Fe e10)
 intro fr hl
 refine Lfr hl ?_
 refine zp ?_;refine qX 3 (u26 || (!u24)) [(0,Sl.v a0),(2,.pointer (some ⟨u0,0,none⟩)),(5,.pointer (some ⟨u3,0,none⟩)),(8,.int .i64 u17),(96,.bool ((u26 || (!u24)) || (decide (1<u15))))] ?_ ?_ ?_
 .intro e14 hk14
  iterate 2 refine zn e14 ?_
  refine zk e14 ?_;exact hk14 _ (Fe e14)
 .intro e14 hk14
  refine zy e14 ?_;refine zy e14 ?_;refine zk e14 ?_;exact hk14 _ (Fe e14)
 intro fr hl
 refine Lfr hl ?_
 refine zp ?_;refine qX 3 ((u26 || (!u24)) || (decide (1<u15))) [(0,Sl.v a0),(2,.pointer (some ⟨u0,0,none⟩)),(5,.pointer (some ⟨u3,0,none⟩)),(100,.bool (((u26 || (!u24)) || (decide (1<u15))) || (decide (7<u17))))] ?_ ?_ ?_
 .intro e18 hk18
  iterate 2 refine zn e18 ?_
  refine zk e18 ?_;exact hk18 _ (Fe e18)
 .intro e18 hk18
  refine zy e18 ?_;refine zy e18 ?_;refine zk e18 ?_;exact hk18 _ (Fe e18)
 intro fr hl
 refine Lfr hl ?_
 refine zp ?_;refine qX 4 (((u26 || (!u24)) || (decide (1<u15))) || (decide (7<u17))) [(2,.pointer (some ⟨u0,0,none⟩)),(5,.pointer (some ⟨u3,0,none⟩)),(105,.bool ((((u26 || (!u24)) || (decide (1<u15))) || (decide (7<u17))) || (decide (32768<(a0.len:Int)))))] ?_ ?_ ?_
 .intro e22 hk22
  iterate 3 refine zn e22 ?_
  refine zk e22 ?_;exact hk22 _ (Fe e22)
 .intro e22 hk22
  refine zy e22 ?_;refine qr (qJ rfl rfl underlying24 rfl rfl) rfl rfl rfl rfl e22 ?_
  refine zy e22 ?_;refine zk e22 ?_;exact hk22 _ (Fe e22)
 intro fr hl
 refine Lfr hl ?_
 refine z2 ?_;refine AW.iff rfl (wt (wt (wt (wt Iff.rfl (qt Iff.rfl)) decide_eq_true_iff) decide_eq_true_iff) decide_eq_true_iff) h (fun h=>?_) (fun h=>?_)
 rotate_left
 .refine AW.skip ?_;refine qc (z3 ?_);obtain⟨u28,u29,u30,u31,u32,u33,u34,u35,u36,u37,u38,u39,u40,hc,h⟩:=h
  refine zl (jb rfl underlying88 rfl jT rfl hc ?_)
  refine zs jT h fun I h=>?_;refine zp ?_;refine z2 ?_;refine AW.ret ?_;obtain⟨u41,u42,u43,u44,u45,u46,u47,u48,u49,u50,u51,u52,u53,hc0,h⟩:=h
  exact bRM results34 (wS (jR rfl underlying88 rfl jT hc0) (wS (aaW rfl) jQ)) ⟨_,_,_,_,_,_,_,_,_,_,_,_,_,_,rfl,h⟩
 refine z3 ?_;refine zm (wV (vs:=[]) (cs:= #[.int .i64 0,.string ByteArray.empty,.int .i64 0,.int .i64 0,.int .i64 0,.int .i64 0,.int .i64 0,.int .i64 0,Sl.v (⟨none,0,0⟩:Sl),.string ByteArray.empty,.bool false,.int .i64 0,Sl.v (⟨none,0,0⟩:Sl)]) rfl underlying88 jT ai8 rfl (by kernel_rfl)) ?_;refine zs jT h fun I h=>?_;refine zp ?_;refine z2 ?_;refine AW.ret ?_
 refine qi ?_;obtain⟨u54,u55,u56,u57,u58,u59,u60,u61,u62,u63,u64,u65,u66,hc0,h⟩:=h
 exact bRM results34 (wS (jR rfl underlying88 rfl jT hc0) (wS (aaW rfl) jQ)) ⟨_,_,_,_,_,_,_,_,_,_,_,_,_,_,rfl,h⟩
end G
namespace Zt
open Go SL G Pa Wi
variable{B:World}{ro I I':AH}{tag tag':Nat->Nat}
theorem adO{c:wh}{p:Str}:[qC c.kind.toNat,wT c.home,jw [c.session,c.req,c.nonce,c.lease,c.beats,c.ack],wT p,wT c.path,jw [(bitN c.watch:Int),c.epoch,(c.members.length:Int)],jw c.members].flatten=va c p:=by
 unfold va jw abj
 simp
theorem aj2{c:wh}{p:Str}(hp:yE c.ops=some p)(h:¬ (pK c/\(va c p).length<=32768)):qS c=none:=by unfold qS;rw[hp];simp only;rw[if_neg h]
theorem akU{c:wh}{p:Str}(hp:yE c.ops=some p)(h:pK c)(hl:(va c p).length<=32768):qS c=some (va c p):=by unfold qS;rw[hp];simp only;rw[if_pos ⟨h,hl⟩]
theorem akn{c:wh}(hp:yE c.ops=none):qS c=none:=by unfold qS;rw[hp]
theorem ag5{os ms:Sl}{c:wh}{Q:Sl->Bool->AH->Prop}(hx:∀ tag' I',qd [0,2] ro tag I tag' I'->aai ro tag' I' os c.ops/\SL.qy ro I' ms (c.members.map vI))(hs:abN c)
  (hno:qS c=none->∀ tag' I',qd [0,2] ro tag I tag' I'->Q ⟨none,0,0⟩ false I')
  (hyes:∀ b,qS c=some b->∀ s tag' I',qd [0,2] ro tag I tag' I'->Row tag' I' 6 5 s (b.map vU)->Q s true I'):pd B ro c.kind (S c.home) c.session c.req c.nonce c.lease c.beats c.ack os (S c.path) c.watch c.epoch ms I Q:=by
 refine aeB fun hsep=>?_
 unfold aap
 refine ql (tag:=tag) 2 hsep fun X tag1 I1 st1 x1=>?_
 have s1:qd [0,2] ro tag I tag1 I1:=(st1 []).s (by simp)
 refine⟨os,(x1.read s1.sep).2.2 _ rfl 8 _ rfl,?_⟩
 refine ajz (tag:=tag1) (fun tag' I' st=>(hx _ _ (s1.trans (st.mono (by simp)))).1) hs.ops (fun hp tag2 I2 st2=>?_) fun p hp s2 tag2 I2 st2 r2=>?_
 .rw[if_pos (by decide)]
  unfold vk
  rw[if_pos rfl]
  unfold zI
  rw[if_pos rfl]
  unfold zH
  rw[if_pos rfl]
  exact hno (akn hp) tag2 I2 (s1.trans (st2.mono (by simp)))
 rw[if_neg (by simp)]
 have k2:qd [0,2] ro tag I tag2 I2:=s1.trans (st2.mono (by simp))
 have x2:=x1.keepS st2
 have g2:=(x2.read k2.sep).2.2 _ rfl
 have hM:=(hx _ _ k2).2
 have hml:ms.len=c.members.length:=by rw[hM.1,List.length_map]
 have n9:∀ {tag' I'},qd [0,2] ro tag I tag' I'->¬ pK c->zH B ro X s2 Q true I':=fun k h=>by unfold zH;rw[if_pos rfl];exact hno (aj2 hp fun y=>h y.1) _ _ k
 have n7:∀ {tag' I'},qd [0,2] ro tag I tag' I'->¬ pK c->zI B ro X s2 Q true I':=fun k h=>by unfold zI;rw[if_pos rfl];exact n9 k h
 refine⟨ms,g2 12 _ rfl,?_⟩
 by_cases h7:7<c.members.length
 .rw[show decide ((7:Int)<(ms.len:Int))=true by simp;omega]
  unfold vk
  rw[if_pos rfl]
  exact n7 k2 fun k=>by have:=k.1;omega
 rw[show decide ((7:Int)<(ms.len:Int))=false by simp;omega]
 unfold vk
 rw[if_neg (by simp)]
 refine⟨c.kind,g2 0 _ rfl,c.session,g2 2 _ rfl,c.req,g2 3 _ rfl,c.nonce,g2 4 _ rfl,c.lease,g2 5 _ rfl,c.beats,g2 6 _ rfl,c.ack,g2 7 _ rfl,c.epoch,g2 11 _ rfl,?_⟩
 refine ql (tag:=tag2) 0 k2.sep fun y tag3 I3 st3 q3=>?_
 have k3:qd [0,2] ro tag I tag3 I3:=k2.trans ((st3 []).s (by simp))
 refine ahp (l:=[c.kind,c.session,c.req,c.nonce,c.lease,c.beats,c.ack,c.epoch]) (q3.read k3.sep) (by simp) ?_
 cases c1:[c.kind,c.session,c.req,c.nonce,c.lease,c.beats,c.ack,c.epoch].all qK with
 | false=>
  refine n7 k3 fun k=>?_
  obtain⟨_,a1,a2,a3,a4,a5,a6,a7,a8,_⟩:=k
  simp[a1,a2,a3,a4,a5,a6,a7,a8]at c1
 | true=>
 unfold zI
 rw[if_neg (by simp)]
 have x3:=x2.keep (st3 [])
 have r3:=r2.keep (st3 [])
 have g3:=(x3.read k3.sep).2.2 _ rfl
 refine⟨ms,g3 12 _ rfl,?_⟩
 have hM3:=(hx _ _ k3).2
 refine ahp (l:=c.members) hM3 (by omega) ?_
 cases c2:c.members.all qK with
 | false=>
  refine n9 k3 fun k=>?_
  have:c.members.all qK=true:=List.all_eq_true.2 k.2.2.2.2.2.2.2.2.2
  rw[this]at c2;cases c2
 | true=>
 unfold zH
 rw[if_neg (by simp)]
 refine⟨c.watch,g3 10 _ rfl,?_⟩
 simp only[List.all_cons,List.all_nil,Bool.and_true,Bool.and_eq_true]at c1
 obtain⟨b1,b2,b3,b4,b5,b6,b7,b8⟩:=c1
 have hok:pK c:=⟨by omega,b1,b2,b3,b4,b5,b6,b7,b8,List.all_eq_true.1 c2⟩
 suffices hfin:vG B ro X s2 Q (bitN c.watch:Nat) I3 by
  cases hw:c.watch with
  | true=>rw[if_pos rfl];rw[hw]at hfin;exact hfin
  | false=>rw[if_neg (by simp)];rw[hw]at hfin;exact hfin
 unfold vG
 refine ajp ?_
 have hs3:=k3.sep
 have gA:∀ {τ:AH},∀i v,(jk c os ms)[i]?=some v->qa (join ro I3) τ ((⟨X,0,none⟩:Addr).add i)=some v:=fun{τ} i v hv=>((x3.read hs3).all (τ:=τ) hs3).2.2 _ rfl i v hv
 refine⟨S c.home,gA 1 _ rfl,c.session,gA 2 _ rfl,c.req,gA 3 _ rfl,c.nonce,gA 4 _ rfl,c.lease,gA 5 _ rfl,c.beats,gA 6 _ rfl,c.ack,gA 7 _ rfl,S c.path,gA 9 _ rfl,c.epoch,gA 11 _ rfl,ms,gA 12 _ rfl,ms,gA 12 _ rfl,c.kind,gA 0 _ rfl,?_⟩
 have rk:=abh.1 b1
 refine aaA (tag:=T7) rk.1 rk.2 fun w1 tagA τA stA rA=>?_
 refine afp (tag:=tagA) (stA []).sep fun w2 tagB τB stB rB=>?_
 refine⟨_,rfl,?_⟩
 refine aaU (tag:=tagB) rB (by have:=hs.home;omega) fun w3 tagC τC stC rC=>?_
 refine ql (tag:=tagC) 0 (stC []).sep fun y4 tagD τD stD rD=>?_
 refine aex (tag:=tagD) (l:=[c.session,c.req,c.nonce,c.lease,c.beats,c.ack]) (rD.read (stD []).sep) (by simp) (by simp[b2,b3,b4,b5,b6,b7]) fun w5 tagE τE stE rE=>?_
 have hpl:=aeZ hp hs.ops
 refine aaU (tag:=tagE) ((r3.read hs3).all hs3) (by omega) fun w6 tagF τF stF rF=>?_
 refine afp (tag:=tagF) (stF []).sep fun w7 tagG τG stG rG=>?_
 refine⟨_,rfl,?_⟩
 refine aaU (tag:=tagG) rG (by have:=hs.path;omega) fun w8 tagH τH stH rH=>?_
 refine ql (tag:=tagH) 0 (stH []).sep fun y9 tagI τI stI rI=>?_
 have hbit:=afO c.watch
 rw[hml]at rI
 refine aex (tag:=tagI) (l:=[(bitN c.watch:Int),c.epoch,(c.members.length:Int)]) (rI.read (stI []).sep) (by simp) (by simp[hbit,b8,akQ (l:=c.members) (n:=7) (by omega) (by decide)]) fun w10 tagJ τJ stJ rJ=>?_
 refine aex (tag:=tagJ) (l:=c.members) (hM3.all hs3) (by omega) c2 fun w11 tagK τK stK rK=>?_
 refine ql (tag:=tagK) 0 (stK []).sep fun y12 tagL τL stL rL=>?_
 have kK:HLe τK τL:=yg stL
 have kJ:HLe τJ τL:=HLe.trans' (yg stK) kK
 have kI:HLe τI τL:=HLe.trans' (yg stJ) kJ
 have kH:HLe τH τL:=HLe.trans' (yg stI) kI
 have kF:HLe τF τL:=HLe.trans' (yg stG) (HLe.trans' (yg stH) kH)
 have kE:HLe τE τL:=HLe.trans' (yg stF) kF
 have kC:HLe τC τL:=HLe.trans' (yg stD) (HLe.trans' (yg stE) kE)
 have kA:HLe τA τL:=HLe.trans' (yg stB) (HLe.trans' (yg stC) kC)
 have hlen:(va c p).length<=100000000000:=by
  have e:(va c p).length=(aao c p).1.length:=by rw[adL hok (by have:=hs.home;omega) (by omega) (by have:=hs.path;omega)]
  have a:=abX c.members (wc4 c p)
  have b:=ahv c p
  have h1:=hs.home
  have h2:=hs.path
  unfold aao at e
  omega
 refine aew (tag:=tagL) (ss:=[w1,w3,w5,w6,w8,w10,w11]) (ls:=[qC c.kind.toNat,wT c.home,jw [c.session,c.req,c.nonce,c.lease,c.beats,c.ack],wT p,wT c.path,jw [(bitN c.watch:Int),c.epoch,(c.members.length:Int)],jw c.members]) (rL.read (stL []).sep) rfl (fun i s l hs' hl'=>?_) (by rw[adO];omega) (by simp) fun so tagZ τZ stZ rZ=>?_
 .rcases i with _ | _ | _ | _ | _ | _ | _ | i
  .cases hs';cases hl';exact(rA.read (stA []).sep).hle kA
  .cases hs';cases hl';exact(rC.read (stC []).sep).hle kC
  .cases hs';cases hl';exact(rE.read (stE []).sep).hle kE
  .cases hs';cases hl';exact(rF.read (stF []).sep).hle kF
  .cases hs';cases hl';exact(rH.read (stH []).sep).hle kH
  .cases hs';cases hl';exact(rJ.read (stJ []).sep).hle kJ
  .cases hs';cases hl';exact(rK.read (stK []).sep).hle kK
  .cases hs'
 rw[adO]at rZ
 intro hd
 have kZ:qd [0,2] ro tag I (vV I3 tag3 tagZ) (join I3 τZ):=k3.trans ((uD hs3 hd (stZ []).sep tag3 []).s (by simp))
 have hso:so.len=(va c p).length:=by rw[rZ.len,List.length_map]
 show if(32768:Int)<(so.len:Int)then _ else _
 by_cases hb:32768<(va c p).length
 .rw[if_pos (by omega)]
  exact hno (aj2 hp fun k=>by have:=k.2;omega) _ _ kZ
 .rw[if_neg (by omega)]
  exact hyes _ (akU hp hok (by omega)) so _ _ kZ (rZ.allB hd tag3)