/- StoreCalls: where what it reads is of bulk at most 1048576. No other condition beside what the card says of the package variables, which are as the program's text lays them. -/
import Derived.SevenTiedAt
import Derived.Test.YtomdigihapdhnaaGreatDoorRows
import Derived.Test.YtomdigihapdhnaaGreatDoorCards
import Derived.Test.YtomdigihapdhnaaGreatDoorTie
import Derived.Test.YtomdigihapdhnaaGreatDoorXM
namespace Go.Proofs.YtomdigihapdhnaaGreatDoor.Zt
open Go Go.Proofs.YtomdigihapdhnaaGreatDoor.SL Go.ChangeShapes Go.WideShapes Go.ChangeAt Go.RowKit
set_option maxRecDepth 100000 in
theorem adY(os:Os)(started:os.Started)(H:Type)(enc:TypeId×Value->H)(F:Stop.Interp):
    ReturnsInHanded {} Tryz.checked os 8 .any (fun w args=>((Rows.OpenSpec.upto Rows.storeCallsSpec).pre enc Tryz.prog Tryz.f8 [] false w args/\laidMetH Tryz.prog aeS w)/\sizedMet enc Tryz.prog Tryz.f8 (Rows.OpenSpec.upto Rows.storeCallsSpec) false w args)
      (((Rows.OpenSpec.upto Rows.storeCallsSpec).at F).post enc Tryz.prog Tryz.f8 false true false false):=by
  refine ak8 (C:=Tryz.checked) (X:=fun w _=>laidMetH Tryz.prog aeS w) (fun _ _ _ hh h=>h.of_heap hh) own started (by kernel_rfl) Tryz.func8
    (ai4 (enc:=enc) (C:=Tryz.checked) (s:=Rows.storeCallsSpec) (X:=fun w _=>laidMetH Tryz.prog aeS w) (World.laidAll Tryz.prog os aeS) #[.agg #[.int .i64 0,.string ByteArray.empty,.int .i64 0,.int .i64 0,.int .i64 0,.int .i64 0,.int .i64 0,.int .i64 0,.slice none 0 0,.string ByteArray.empty,.bool false,.int .i64 0,.slice none 0 0],.slice none 0 0] 8 (World.laidAll_os _ _ _)
      (World.shaped_of_ZipB (by kernel_rfl) (by kernel_rfl)) (by kernel_rfl) (x:=([.agg [.lit (.int .i64 0),.lit (.string []),.lit (.int .i64 0),.lit (.int .i64 0),.lit (.int .i64 0),.lit (.int .i64 0),.lit (.int .i64 0),.lit (.int .i64 0),.nil,.lit (.string []),.lit (.bool false),.lit (.int .i64 0),.nil],.nil],[],[])) (by kernel_rfl) (by kernel_rfl) (by kernel_rfl)
      (by rw[MakeChecks.laidMetH_plain _ _ _ (by kernel_rfl)];exact laidMet_laidAll _ (by kernel_rfl) (by kernel_rfl))) ?_
  intro W base args ds gs before hval0 hW hk hsz0 hL hsh _
  have hval:∀ (j:Nat) t v,Tryz.f8.params[j]?=some t->args[j]?=some v->Value.okWide Tryz.prog W .any base t v:=hval0
  have hsz:(DataW.weightsEach Tryz.prog (Tryz.f8.params.toList++Rows.storeCallsSpec.plain.varTypes Tryz.prog) (ds++gs)).all (· <=reachBytes)=true:=hsz0
  have hW':=hW
  obtain⟨p,q,hA0,hV,rfl,hfz,hnd⟩:=hW
  have hA:DataW.TrodAll enc Tryz.prog W 0 (fun _=>true) true Tryz.f8.params.toList args.toList ds p:=hA0
  rw[Tryz.params8]at hA hval hsz
  obtain⟨v0,vs0,d0,ds0,p0,q0,hargs,rfl,rfl,h0,r0⟩:=trodAll_cons hA
  obtain⟨v1,vs1,d1,ds1,p1,q1,rfl,rfl,rfl,h1,r1⟩:=trodAll_cons r0
  obtain⟨rfl,rfl,rfl⟩:=trodAll_nil r1
  obtain rfl:args= #[v0,v1]:=by cases args;simp_all
  obtain⟨rfl,rfl⟩:=trodVars_none hV
  have g:=als hsh hL
  obtain⟨cs,rfl,hcz⟩:=okWide_struct Tryz.underlying57 (hval 0 57 v0 rfl rfl)
  obtain⟨a1,len1,cap1,rfl⟩:=okWide_slice Zt.uDs (hval 1 24 v1 rfl rfl)
  have u0:SL.ww 1048576 Tryz.prog W H enc 57 cs.toList:=by
    obtain⟨m,hm⟩:=h0
    exact⟨m,d0,p0,hm,SL.uL (i:=0) rfl rfl hsz,agp hk (i:=0) rfl⟩
  have u1:SL.ww 1048576 Tryz.prog W H enc 24 [.slice a1 len1 cap1]:=by
    obtain⟨m,hm⟩:=h1
    exact⟨m,d1,p1,hm,SL.uL (i:=1) rfl rfl hsz,agp hk (i:=1) rfl⟩
  obtain⟨c,os,ms,hcs,hi⟩:=alE u0
  obtain⟨b,hbl,hR,hcap⟩:=akX (s:=⟨a1,len1,cap1⟩) u1
  obtain rfl:cs=(jk c os ms).toArray:=by rw[<-hcs]
  have hc:SL.qb Tryz.prog W (all W) 8 #[.agg (jk c os ms).toArray,Sl.v ⟨a1,len1,cap1⟩] (fun _=>none) fun v _=>v= .bool true:=
    SL.qb.mono (ail (B:=W) (I:=fun _=>none) g hi hR hcap hbl) fun v I ⟨r,hv,hr⟩=>by rw[hv,hr]
  refine(ai0 hc).mono fun e W' ⟨⟨v,he,hv⟩,bel⟩=>?_
  subst hv
  subst he
  exact⟨_,rfl,_,_,_,[],_,[],hW',trodAll_mk1 (shut_bool Zt.uBo _),(trodAll_cons_mk (Below.trod afd (by kernel_rfl) (of_decide_eq_true (by kernel_rfl)) h0 bel (agt h0)) (trodAll_cons_mk (Below.trod afd (by kernel_rfl) (of_decide_eq_true (by kernel_rfl)) h1 bel (agt h1)) trodAll_mk0)),rfl,bel.frame _,fun h=>by cases h⟩
theorem aeD:Rows.storeCallsUptoRow.holds Tryz.pinned (Rows.OpenSpec.upto Rows.storeCallsSpec):=
  OpenClaim.holds_of_cond 8 Tryz.f8 rfl rfl rfl rfl rfl rfl rfl ⟨rfl,rfl,rfl,rfl,rfl⟩ rfl rfl rfl rfl rfl (by kernel_rfl) Tryz.func8 aiS
    (of_decide_eq_true (by kernel_rfl)) (by unfold Func.isWrapper;first | (rw[if_pos (by decide+kernel)];kernel_rfl) | (rw[if_neg (by decide+kernel)];exact⟨rfl,rfl⟩))
    (fun os started H enc _ F=>adY os started H enc F)
/-! the card's closed facts, each a lemma of its own -/
set_option maxRecDepth 100000 in
theorem ak0:Rows.storeCallsUptoRow.wfByText (Rows.OpenSpec.upto Rows.storeCallsSpec)=true:=by kernel_rfl
set_option maxRecDepth 100000 in
theorem aj3:Tryz.prog.mainIs=some (true, "49eed35f75761d902e5bd58df56efda49f97cffcfa98a6c6e8fddb4c184c610c".toList):=by kernel_rfl
set_option maxRecDepth 100000 in
theorem aiT:true=Tryz.prog.looks []:=by kernel_rfl
set_option maxRecDepth 100000 in
theorem aj4:false=Rows.storeCallsUptoRow.goesBy Tryz.prog:=by kernel_rfl
end Go.Proofs.YtomdigihapdhnaaGreatDoor.Zt
namespace Go.Proofs.YtomdigihapdhnaaGreatDoor
open Go
/-- The card, for the claim. -/
theorem storeCalls_holds:Rows.StoreCallsUptoCardSaid:=
  Claim7.holds_tied_plain_at .later [] [.data,.data,.data,.data,.sentinel,.pinned] true (true, "49eed35f75761d902e5bd58df56efda49f97cffcfa98a6c6e8fddb4c184c610c") true
    Zt.aeD (fun _ h=>by cases h) Zt.ak0 (fun _ h=>by cases h) storeCallsUpto_row_tie rfl ⟨rfl,rfl⟩ Zt.aj3 rfl
    (fun f fn hf hfn=>by
      obtain rfl:f=8:=Option.some.inj ((show Tryz.prog.funcNamed "althing/althinglaw17.StoreCalls" =some 8 by kernel_rfl).symm.trans hf) |>.symm
      obtain rfl:fn=Tryz.f8:=(Option.some.inj (Tryz.func8.symm.trans hfn)).symm
      exact⟨Zt.aiT,fun j t ht=>by
        rw[Tryz.params8]at ht
        have hm:t∈[57,24]:=by simpa using Array.mem_of_getElem? ht
        have hall:([57,24].all fun u=> !Tryz.prog.wantsStandIn u)=true:=by kernel_rfl
        exact(show Tryz.prog.wantsStandIn t=false by simpa using List.all_eq_true.1 hall t hm)⟩)
    Zt.aj4
end Go.Proofs.YtomdigihapdhnaaGreatDoor
