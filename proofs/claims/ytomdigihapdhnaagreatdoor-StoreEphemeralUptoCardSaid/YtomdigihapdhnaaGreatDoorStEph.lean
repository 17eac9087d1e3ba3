/- StoreEphemeral: where what it reads is of bulk at most 1048576. No other condition beside what the card says of the package variables, which are as the program's text lays them. -/
import Derived.SevenTiedAt
import Derived.Test.YtomdigihapdhnaaGreatDoorRows
import Derived.Test.YtomdigihapdhnaaGreatDoorCards
import Derived.Test.YtomdigihapdhnaaGreatDoorTie
import Derived.Test.YtomdigihapdhnaaGreatDoorXT
namespace Go.Proofs.YtomdigihapdhnaaGreatDoor.Zt
open Go Go.Proofs.YtomdigihapdhnaaGreatDoor.SL Go.ChangeShapes Go.WideShapes Go.ChangeAt Go.RowKit
set_option maxRecDepth 100000 in
theorem ahh(os:Os)(started:os.Started)(H:Type)(enc:TypeId×Value->H)(F:Stop.Interp):
    ReturnsInHanded {} Tryz.checked os 7 .any (fun w args=>((Rows.OpenSpec.upto Rows.storeEphemeralSpec).pre enc Tryz.prog Tryz.f7 [] false w args/\laidMetH Tryz.prog alb w)/\sizedMet enc Tryz.prog Tryz.f7 (Rows.OpenSpec.upto Rows.storeEphemeralSpec) false w args)
      (((Rows.OpenSpec.upto Rows.storeEphemeralSpec).at F).post enc Tryz.prog Tryz.f7 false true false false):=by
  refine avB (C:=Tryz.checked) (X:=fun w _=>laidMetH Tryz.prog alb w) (fun _ _ _ hh h=>h.of_heap hh) own started (by kernel_rfl) Tryz.func7
    (asg (enc:=enc) (C:=Tryz.checked) (s:=Rows.storeEphemeralSpec) (X:=fun w _=>laidMetH Tryz.prog alb w) (World.laidAll Tryz.prog os alb) #[.slice none 0 0] 8 (World.laidAll_os _ _ _)
      (World.shaped_of_ZipB (by kernel_rfl) (by kernel_rfl)) (by kernel_rfl) (x:=([.nil],[],[])) (by kernel_rfl) (by kernel_rfl) (by kernel_rfl)
      (by rw[MakeChecks.laidMetH_plain _ _ _ (by kernel_rfl)];exact laidMet_laidAll _ (by kernel_rfl) (by kernel_rfl))) ?_
  intro W base args ds gs before hval0 hW hk hsz0 hL hsh _
  have hval:∀ (j:Nat) t v,Tryz.f7.params[j]?=some t->args[j]?=some v->Value.okWide Tryz.prog W .any base t v:=hval0
  have hsz:(DataW.weightsEach Tryz.prog (Tryz.f7.params.toList++Rows.storeEphemeralSpec.plain.varTypes Tryz.prog) (ds++gs)).all (· <=reachBytes)=true:=hsz0
  have hW':=hW
  obtain⟨p,q,hA0,hV,rfl,hfz,hnd⟩:=hW
  have hA:DataW.TrodAll enc Tryz.prog W 0 (fun _=>true) true Tryz.f7.params.toList args.toList ds p:=hA0
  rw[Tryz.params7]at hA hval hsz
  obtain⟨v0,vs0,d0,ds0,p0,q0,hargs,rfl,rfl,h0,r0⟩:=trodAll_cons hA
  obtain⟨rfl,rfl,rfl⟩:=trodAll_nil r0
  obtain rfl:args= #[v0]:=by cases args;simp_all
  obtain⟨rfl,rfl⟩:=trodVars_none hV
  have g:=avU hsh hL
  obtain⟨a0,len0,cap0,rfl⟩:=okWide_slice Zt.uCs (hval 0 50 v0 rfl rfl)
  have u0:SL.zJ 1048576 Tryz.prog W H enc 50 [.slice a0 len0 cap0]:=by
    obtain⟨m,hm⟩:=h0
    exact⟨m,d0,p0,hm,SL.agB (i:=0) rfl rfl hsz,asi hk (i:=0) rfl⟩
  obtain⟨cs,hl,hR,hok⟩:=Zt.avp (s:=⟨a0,len0,cap0⟩) u0
  have hc:SL.qc Tryz.prog W (all W) 7 #[Sl.v ⟨a0,len0,cap0⟩] (fun _=>none) fun v _=>v= .bool true:=
    SL.qc.mono (atG (B:=W) (I:=fun _=>none) (Q:=fun r _=>r=true) g hR hl hok fun _=>rfl) fun v I ⟨r,hv,hr⟩=>by rw[hv,hr]
  refine(ase hc).mono fun e W' ⟨⟨v,he,hv⟩,bel⟩=>?_
  subst hv
  subst he
  exact⟨_,rfl,_,_,_,[],_,[],hW',trodAll_mk1 (shut_bool Zt.uBo _),(trodAll_cons_mk (Below.trod apb (by kernel_rfl) (LT (by kernel_rfl)) h0 bel (asp h0)) trodAll_mk0),rfl,bel.frame _,fun h=>by cases h⟩
theorem aiH:Rows.storeEphemeralUptoRow.holds Tryz.pinned (Rows.OpenSpec.upto Rows.storeEphemeralSpec):=
  OpenClaim.holds_of_cond 7 Tryz.f7 rfl rfl rfl rfl rfl rfl rfl ⟨rfl,rfl,rfl,rfl,rfl⟩ rfl rfl rfl rfl rfl (by kernel_rfl) Tryz.func7 ar6
    (LT (by kernel_rfl)) (by unfold Func.isWrapper;first | (rw[mc (by decide+kernel)];kernel_rfl) | (rw[ma (by decide+kernel)];exact⟨rfl,rfl⟩))
    (fun os started H enc _ F=>ahh os started H enc F)
/-! the card's closed facts, each a lemma of its own -/
set_option maxRecDepth 100000 in
theorem avs:Rows.storeEphemeralUptoRow.wfByText (Rows.OpenSpec.upto Rows.storeEphemeralSpec)=true:=by kernel_rfl
set_option maxRecDepth 100000 in
theorem at0:Tryz.prog.mainIs=some (true, "49eed35f75761d902e5bd58df56efda49f97cffcfa98a6c6e8fddb4c184c610c".toList):=by kernel_rfl
set_option maxRecDepth 100000 in
theorem ar7:true=Tryz.prog.looks []:=by kernel_rfl
set_option maxRecDepth 100000 in
theorem at2:false=Rows.storeEphemeralUptoRow.goesBy Tryz.prog:=by kernel_rfl
end Go.Proofs.YtomdigihapdhnaaGreatDoor.Zt
namespace Go.Proofs.YtomdigihapdhnaaGreatDoor
open Go
/-- The card, for the claim. -/
theorem storeEphemeral_holds:Rows.StoreEphemeralUptoCardSaid:=
  Claim7.holds_tied_plain_at .later [] [.data,.data,.data,.data,.sentinel,.pinned] true (true, "49eed35f75761d902e5bd58df56efda49f97cffcfa98a6c6e8fddb4c184c610c") true
    Zt.aiH (fun _ h=>by cases h) Zt.avs (fun _ h=>by cases h) storeEphemeralUpto_row_tie rfl ⟨rfl,rfl⟩ Zt.at0 rfl
    (fun f fn hf hfn=>by
      obtain rfl:f=7:=mA ((show Tryz.prog.funcNamed "althing/althinglaw17.StoreEphemeral" =some 7 by kernel_rfl).symm.trans hf) |>.symm
      obtain rfl:fn=Tryz.f7:=(mA (Tryz.func7.symm.trans hfn)).symm
      exact⟨Zt.ar7,fun j t ht=>by
        rw[Tryz.params7]at ht
        have hm:t∈[50]:=by simpa using Array.mem_of_getElem? ht
        have hall:([50].all fun u=> !Tryz.prog.wantsStandIn u)=true:=by kernel_rfl
        exact(show Tryz.prog.wantsStandIn t=false by simpa using mD.1 hall t hm)⟩)
    Zt.at2
end Go.Proofs.YtomdigihapdhnaaGreatDoor
