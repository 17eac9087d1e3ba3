/- StoreQuota: where what it reads is of bulk at most 1048576. No other condition beside what the card says of the package variables, which are as the program's text lays them. -/
import Derived.SevenTiedAt
import Derived.Test.YtomdigihapdhnaaGreatDoorRows
import Derived.Test.YtomdigihapdhnaaGreatDoorCards
import Derived.Test.YtomdigihapdhnaaGreatDoorTie
import Derived.Test.YtomdigihapdhnaaGreatDoorXT
namespace Go.Proofs.YtomdigihapdhnaaGreatDoor.Zt
open Go Go.Proofs.YtomdigihapdhnaaGreatDoor.SL Go.ChangeShapes Go.WideShapes Go.ChangeAt Go.RowKit
set_option maxRecDepth 100000 in
theorem aiR(os:Os)(started:os.Started)(H:Type)(enc:TypeId×Value->H)(F:Stop.Interp):
    ReturnsInHanded {} Tryz.checked os 5 .any (fun w args=>((Rows.OpenSpec.upto Rows.storeQuotaSpec).pre enc Tryz.prog Tryz.f5 [] false w args/\laidMetH Tryz.prog aj1 w)/\sizedMet enc Tryz.prog Tryz.f5 (Rows.OpenSpec.upto Rows.storeQuotaSpec) false w args)
      (((Rows.OpenSpec.upto Rows.storeQuotaSpec).at F).post enc Tryz.prog Tryz.f5 false true false false):=by
  refine atx (C:=Tryz.checked) (X:=fun w _=>laidMetH Tryz.prog aj1 w) (fun _ _ _ hh h=>h.of_heap hh) own started (by kernel_rfl) Tryz.func5
    (aqr (enc:=enc) (C:=Tryz.checked) (s:=Rows.storeQuotaSpec) (X:=fun w _=>laidMetH Tryz.prog aj1 w) (World.laidAll Tryz.prog os aj1) #[.slice none 0 0] 8 (World.laidAll_os _ _ _)
      (World.shaped_of_ZipB (by kernel_rfl) (by kernel_rfl)) (by kernel_rfl) (x:=([.nil],[],[])) (by kernel_rfl) (by kernel_rfl) (by kernel_rfl)
      (by rw[MakeChecks.laidMetH_plain _ _ _ (by kernel_rfl)];exact laidMet_laidAll _ (by kernel_rfl) (by kernel_rfl))) ?_
  intro W base args ds gs before hval0 hW hk hsz0 hL hsh _
  have hval:∀ (j:Nat) t v,Tryz.f5.params[j]?=some t->args[j]?=some v->Value.okWide Tryz.prog W .any base t v:=hval0
  have hsz:(DataW.weightsEach Tryz.prog (Tryz.f5.params.toList++Rows.storeQuotaSpec.plain.varTypes Tryz.prog) (ds++gs)).all (· <=reachBytes)=true:=hsz0
  have hW':=hW
  obtain⟨p,q,hA0,hV,rfl,hfz,hnd⟩:=hW
  have hA:DataW.TrodAll enc Tryz.prog W 0 (fun _=>true) true Tryz.f5.params.toList args.toList ds p:=hA0
  rw[Tryz.params5]at hA hval hsz
  obtain⟨v0,vs0,d0,ds0,p0,q0,hargs,rfl,rfl,h0,r0⟩:=trodAll_cons hA
  obtain⟨rfl,rfl,rfl⟩:=trodAll_nil r0
  obtain rfl:args= #[v0]:=by cases args;simp_all
  obtain⟨rfl,rfl⟩:=trodVars_none hV
  have g:=atR hsh hL
  obtain⟨a0,len0,cap0,rfl⟩:=okWide_slice Zt.uCs (hval 0 50 v0 rfl rfl)
  have u0:SL.zz 1048576 Tryz.prog W H enc 50 [.slice a0 len0 cap0]:=by
    obtain⟨m,hm⟩:=h0
    exact⟨m,d0,p0,hm,SL.aft (i:=0) rfl rfl hsz,aqt hk (i:=0) rfl⟩
  obtain⟨cs,hl,hR,hok⟩:=Zt.atj (s:=⟨a0,len0,cap0⟩) u0
  have hc:SL.qc Tryz.prog W (all W) 5 #[Sl.v ⟨a0,len0,cap0⟩] (fun _=>none) fun v _=>v= .bool true:=
    SL.qc.mono (ao7 (B:=W) (I:=fun _=>none) (Q:=fun r _=>r=true) g hR hl hok fun _=>rfl) fun v I ⟨r,hv,hr⟩=>by rw[hv,hr]
  refine(aqp hc).mono fun e W' ⟨⟨v,he,hv⟩,bel⟩=>?_
  subst hv
  subst he
  exact⟨_,rfl,_,_,_,[],_,[],hW',trodAll_mk1 (shut_bool Zt.uBo _),(trodAll_cons_mk (Below.trod anI (by kernel_rfl) (of_decide_eq_true (by kernel_rfl)) h0 bel (aqz h0)) trodAll_mk0),rfl,bel.frame _,fun h=>by cases h⟩
theorem ajL:Rows.storeQuotaUptoRow.holds Tryz.pinned (Rows.OpenSpec.upto Rows.storeQuotaSpec):=
  OpenClaim.holds_of_cond 5 Tryz.f5 rfl rfl rfl rfl rfl rfl rfl ⟨rfl,rfl,rfl,rfl,rfl⟩ rfl rfl rfl rfl rfl (by kernel_rfl) Tryz.func5 aqh
    (of_decide_eq_true (by kernel_rfl)) (by unfold Func.isWrapper;first | (rw[if_pos (by decide+kernel)];kernel_rfl) | (rw[if_neg (by decide+kernel)];exact⟨rfl,rfl⟩))
    (fun os started H enc _ F=>aiR os started H enc F)
/-! the card's closed facts, each a lemma of its own -/
set_option maxRecDepth 100000 in
theorem atm:Rows.storeQuotaUptoRow.wfByText (Rows.OpenSpec.upto Rows.storeQuotaSpec)=true:=by kernel_rfl
set_option maxRecDepth 100000 in
theorem ar0:Tryz.prog.mainIs=some (true, "49eed35f75761d902e5bd58df56efda49f97cffcfa98a6c6e8fddb4c184c610c".toList):=by kernel_rfl
set_option maxRecDepth 100000 in
theorem aqi:true=Tryz.prog.looks []:=by kernel_rfl
set_option maxRecDepth 100000 in
theorem ar1:false=Rows.storeQuotaUptoRow.goesBy Tryz.prog:=by kernel_rfl
end Go.Proofs.YtomdigihapdhnaaGreatDoor.Zt
namespace Go.Proofs.YtomdigihapdhnaaGreatDoor
open Go
/-- The card, for the claim. -/
theorem storeQuota_holds:Rows.StoreQuotaUptoCardSaid:=
  Claim7.holds_tied_plain_at .later [] [.data,.data,.data,.data,.sentinel,.pinned] true (true, "49eed35f75761d902e5bd58df56efda49f97cffcfa98a6c6e8fddb4c184c610c") true
    Zt.ajL (fun _ h=>by cases h) Zt.atm (fun _ h=>by cases h) storeQuotaUpto_row_tie rfl ⟨rfl,rfl⟩ Zt.ar0 rfl
    (fun f fn hf hfn=>by
      obtain rfl:f=5:=Option.some.inj ((show Tryz.prog.funcNamed "althing/althinglaw17.StoreQuota" =some 5 by kernel_rfl).symm.trans hf) |>.symm
      obtain rfl:fn=Tryz.f5:=(Option.some.inj (Tryz.func5.symm.trans hfn)).symm
      exact⟨Zt.aqi,fun j t ht=>by
        rw[Tryz.params5]at ht
        have hm:t∈[50]:=by simpa using Array.mem_of_getElem? ht
        have hall:([50].all fun u=> !Tryz.prog.wantsStandIn u)=true:=by kernel_rfl
        exact(show Tryz.prog.wantsStandIn t=false by simpa using List.all_eq_true.1 hall t hm)⟩)
    Zt.ar1
end Go.Proofs.YtomdigihapdhnaaGreatDoor
