/- StoreDecodes: where what it reads is of bulk at most 1048576. No other condition beside what the card says of the package variables, which are as the program's text lays them. -/
import Derived.SevenTiedAt
import Derived.Test.YtomdigihapdhnaaGreatDoorRows
import Derived.Test.YtomdigihapdhnaaGreatDoorCards
import Derived.Test.YtomdigihapdhnaaGreatDoorTie
import Derived.Test.YtomdigihapdhnaaGreatDoorXR
namespace Go.Proofs.YtomdigihapdhnaaGreatDoor.Zt
open Go Go.Proofs.YtomdigihapdhnaaGreatDoor.SL Go.ChangeShapes Go.WideShapes Go.ChangeAt Go.RowKit
set_option maxRecDepth 100000 in
theorem ahj(os:Os)(started:os.Started)(H:Type)(enc:TypeId×Value->H)(F:Stop.Interp):
    ReturnsInHanded {} Tryz.checked os 11 .any (fun w args=>((Rows.OpenSpec.upto Rows.storeDecodesSpec).pre enc Tryz.prog Tryz.f11 [] false w args/\laidMetH Tryz.prog ajw w)/\sizedMet enc Tryz.prog Tryz.f11 (Rows.OpenSpec.upto Rows.storeDecodesSpec) false w args)
      (((Rows.OpenSpec.upto Rows.storeDecodesSpec).at F).post enc Tryz.prog Tryz.f11 false true false false):=by
  refine asZ (C:=Tryz.checked) (X:=fun w _=>laidMetH Tryz.prog ajw w) (fun _ _ _ hh h=>h.of_heap hh) own started (by kernel_rfl) Tryz.func11
    (ap7 (enc:=enc) (C:=Tryz.checked) (s:=Rows.storeDecodesSpec) (X:=fun w _=>laidMetH Tryz.prog ajw w) (World.laidAll Tryz.prog os ajw) #[.slice none 0 0] 8 (World.laidAll_os _ _ _)
      (World.shaped_of_ZipB (by kernel_rfl) (by kernel_rfl)) (by kernel_rfl) (x:=([.nil],[],[])) (by kernel_rfl) (by kernel_rfl) (by kernel_rfl)
      (by rw[MakeChecks.laidMetH_plain _ _ _ (by kernel_rfl)];exact laidMet_laidAll _ (by kernel_rfl) (by kernel_rfl))) ?_
  intro W base args ds gs before hval0 hW hk hsz0 hL hsh _
  have hval:∀ (j:Nat) t v,Tryz.f11.params[j]?=some t->args[j]?=some v->Value.okWide Tryz.prog W .any base t v:=hval0
  have hsz:(DataW.weightsEach Tryz.prog (Tryz.f11.params.toList++Rows.storeDecodesSpec.plain.varTypes Tryz.prog) (ds++gs)).all (· <=reachBytes)=true:=hsz0
  have hW':=hW
  obtain⟨p,q,hA0,hV,rfl,hfz,hnd⟩:=hW
  have hA:DataW.TrodAll enc Tryz.prog W 0 (fun _=>true) true Tryz.f11.params.toList args.toList ds p:=hA0
  rw[Tryz.params11]at hA hval hsz
  obtain⟨v0,vs0,d0,ds0,p0,q0,hargs,rfl,rfl,h0,r0⟩:=trodAll_cons hA
  obtain⟨rfl,rfl,rfl⟩:=trodAll_nil r0
  obtain rfl:args= #[v0]:=by cases args;simp_all
  obtain⟨rfl,rfl⟩:=trodVars_none hV
  have g:=atf hsh hL
  obtain⟨a0,len0,cap0,rfl⟩:=okWide_slice Zt.u30 (hval 0 24 v0 rfl rfl)
  have u0:SL.aeE 1048576 Tryz.prog W H enc 24 [.slice a0 len0 cap0]:=by
    obtain⟨m,hm⟩:=h0
    exact⟨m,d0,p0,hm,SL.ajr (i:=0) rfl rfl hsz,ap9 hk (i:=0) rfl⟩
  obtain⟨b,hbl,hR,hcp⟩:=asN (s:=⟨a0,len0,cap0⟩) u0
  have hc:SL.qc Tryz.prog (z0 W) (all W) 11 #[Sl.v ⟨a0,len0,cap0⟩] (fun _=>none) fun v _=>v= .bool true:=
    SL.qc.mono (apV (B:=z0 W) (I:=fun _=>none) (Q:=fun r _=>r=true) g hR hcp hbl (fun b o h=>by cases h) fun _=>rfl) fun v I ⟨r,hv,hr⟩=>by rw[hv,hr]
  refine(ap5 hc).mono fun e W' ⟨⟨v,he,hv⟩,bel⟩=>?_
  subst hv
  subst he
  exact⟨_,rfl,_,_,_,[],_,[],hW',trodAll_mk1 (shut_bool Zt.uBo _),(trodAll_cons_mk (Below.trod amX (by kernel_rfl) (nJ (by kernel_rfl)) h0 bel (aqe h0)) trodAll_mk0),rfl,bel.frame _,fun h=>by cases h⟩
theorem aio:Rows.storeDecodesUptoRow.holds Tryz.pinned (Rows.OpenSpec.upto Rows.storeDecodesSpec):=
  OpenClaim.holds_of_cond 11 Tryz.f11 rfl rfl rfl rfl rfl rfl rfl ⟨rfl,rfl,rfl,rfl,rfl⟩ rfl rfl rfl rfl rfl (by kernel_rfl) Tryz.func11 apW
    (nJ (by kernel_rfl)) (by unfold Func.isWrapper;first | (rw[me (by decide+kernel)];kernel_rfl) | (rw[mc (by decide+kernel)];exact⟨rfl,rfl⟩))
    (fun os started H enc _ F=>ahj os started H enc F)
/-! the card's closed facts, each a lemma of its own -/
set_option maxRecDepth 100000 in
theorem asQ:Rows.storeDecodesUptoRow.wfByText (Rows.OpenSpec.upto Rows.storeDecodesSpec)=true:=by kernel_rfl
set_option maxRecDepth 100000 in
theorem arp:Tryz.prog.mainIs=some (true, "49eed35f75761d902e5bd58df56efda49f97cffcfa98a6c6e8fddb4c184c610c".toList):=by kernel_rfl
set_option maxRecDepth 100000 in
theorem apX:true=Tryz.prog.looks []:=by kernel_rfl
set_option maxRecDepth 100000 in
theorem arq:false=Rows.storeDecodesUptoRow.goesBy Tryz.prog:=by kernel_rfl
end Go.Proofs.YtomdigihapdhnaaGreatDoor.Zt
namespace Go.Proofs.YtomdigihapdhnaaGreatDoor
open Go
/-- The card, for the claim. -/
theorem storeDecodes_holds:Rows.StoreDecodesUptoCardSaid:=
  Claim7.holds_tied_plain_at .later [] [.data,.data,.data,.data,.sentinel,.pinned] true (true, "49eed35f75761d902e5bd58df56efda49f97cffcfa98a6c6e8fddb4c184c610c") true
    Zt.aio (fun _ h=>by cases h) Zt.asQ (fun _ h=>by cases h) storeDecodesUpto_row_tie rfl ⟨rfl,rfl⟩ Zt.arp rfl
    (fun f fn hf hfn=>by
      obtain rfl:f=11:=mQ ((show Tryz.prog.funcNamed "althing/althinglaw17.StoreDecodes" =some 11 by kernel_rfl).symm.trans hf) |>.symm
      obtain rfl:fn=Tryz.f11:=(mQ (Tryz.func11.symm.trans hfn)).symm
      exact⟨Zt.apX,fun j t ht=>by
        rw[Tryz.params11]at ht
        have hm:t∈[24]:=by simpa using Array.mem_of_getElem? ht
        have hall:([24].all fun u=> !Tryz.prog.wantsStandIn u)=true:=by kernel_rfl
        exact(show Tryz.prog.wantsStandIn t=false by simpa using mz.1 hall t hm)⟩)
    Zt.arq
end Go.Proofs.YtomdigihapdhnaaGreatDoor
