/- StoreApart: where what it reads is of bulk at most 1048576. No other condition beside what the card says of the package variables, which are as the program's text lays them. -/
import Derived.SevenTiedAt
import Derived.Test.YtomdigihapdhnaaGreatDoorRows
import Derived.Test.YtomdigihapdhnaaGreatDoorCards
import Derived.Test.YtomdigihapdhnaaGreatDoorTie
import Derived.Test.YtomdigihapdhnaaGreatDoorXV
namespace Go.Proofs.YtomdigihapdhnaaGreatDoor.Zt
open Go Go.Proofs.YtomdigihapdhnaaGreatDoor.SL Go.ChangeShapes Go.WideShapes Go.ChangeAt Go.RowKit
set_option maxRecDepth 100000 in
theorem akw(os:Os)(started:os.Started)(H:Type)(enc:TypeId×Value->H)(F:Stop.Interp):
    ReturnsInHanded {} Tryz.checked os 4 .any (fun w args=>((Rows.OpenSpec.upto Rows.storeApartSpec).pre enc Tryz.prog Tryz.f4 [] false w args/\laidMetH Tryz.prog alX w)/\sizedMet enc Tryz.prog Tryz.f4 (Rows.OpenSpec.upto Rows.storeApartSpec) false w args)
      (((Rows.OpenSpec.upto Rows.storeApartSpec).at F).post enc Tryz.prog Tryz.f4 false true false false):=by
  refine awL (C:=Tryz.checked) (X:=fun w _=>laidMetH Tryz.prog alX w) (fun _ _ _ hh h=>h.of_heap hh) own started (by kernel_rfl) Tryz.func4
    (atl (enc:=enc) (C:=Tryz.checked) (s:=Rows.storeApartSpec) (X:=fun w _=>laidMetH Tryz.prog alX w) (World.laidAll Tryz.prog os alX) #[.slice none 0 0,.string ByteArray.empty] 8 (World.laidAll_os _ _ _)
      (World.shaped_of_ZipB (by kernel_rfl) (by kernel_rfl)) (by kernel_rfl) (x:=([.nil,.lit (.string [])],[],[])) (by kernel_rfl) (by kernel_rfl) (by kernel_rfl)
      (by rw[MakeChecks.laidMetH_plain _ _ _ (by kernel_rfl)];exact laidMet_laidAll _ (by kernel_rfl) (by kernel_rfl))) ?_
  intro W base args ds gs before hval0 hW hk hsz0 hL hsh _
  have hval:∀ (j:Nat) t v,Tryz.f4.params[j]?=some t->args[j]?=some v->Value.okWide Tryz.prog W .any base t v:=hval0
  have hsz:(DataW.weightsEach Tryz.prog (Tryz.f4.params.toList++Rows.storeApartSpec.plain.varTypes Tryz.prog) (ds++gs)).all (· <=reachBytes)=true:=hsz0
  have hW':=hW
  obtain⟨p,q,hA0,hV,rfl,hfz,hnd⟩:=hW
  have hA:DataW.TrodAll enc Tryz.prog W 0 (fun _=>true) true Tryz.f4.params.toList args.toList ds p:=hA0
  rw[Tryz.params4]at hA hval hsz
  obtain⟨v0,vs0,d0,ds0,p0,q0,hargs,rfl,rfl,h0,r0⟩:=trodAll_cons hA
  obtain⟨v1,vs1,d1,ds1,p1,q1,rfl,rfl,rfl,h1,r1⟩:=trodAll_cons r0
  obtain⟨rfl,rfl,rfl⟩:=trodAll_nil r1
  obtain rfl:args= #[v0,v1]:=by cases args;simp_all
  obtain⟨rfl,rfl⟩:=trodVars_none hV
  have g:=aw6 hsh hL
  obtain⟨a0,len0,cap0,rfl⟩:=okWide_slice Zt.uCs (hval 0 50 v0 rfl rfl)
  obtain⟨hm,rfl⟩:=okWide_string Zt.u9 (hval 1 9 v1 rfl rfl)
  have u0:SL.zI 1048576 Tryz.prog W H enc 50 [.slice a0 len0 cap0]:=by
    obtain⟨m,hm⟩:=h0
    exact⟨m,d0,p0,hm,SL.agY (i:=0) rfl rfl hsz,atn hk (i:=0) rfl⟩
  obtain⟨cs,hl,hR,hok⟩:=Zt.awy (s:=⟨a0,len0,cap0⟩) u0
  have hc:SL.qc Tryz.prog W (all W) 4 #[Sl.v ⟨a0,len0,cap0⟩,.string hm] (fun _=>none) fun v _=>v= .bool true:=
    SL.qc.mono (ata (B:=W) (I:=fun _=>none) (Q:=fun r _=>r=true) g hR hl hok fun _=>rfl) fun v I ⟨r,hv,hr⟩=>by rw[hv,hr]
  refine(atj hc).mono fun e W' ⟨⟨v,he,hv⟩,bel⟩=>?_
  subst hv
  subst he
  exact⟨_,rfl,_,_,_,[],_,[],hW',trodAll_mk1 (shut_bool Zt.uBo _),(trodAll_cons_mk (Below.trod amK (by kernel_rfl) (Lz (by kernel_rfl)) h0 bel (aoI h0)) (trodAll_cons_mk (Below.trod amK (by kernel_rfl) (Lz (by kernel_rfl)) h1 bel (aoI h1)) trodAll_mk0)),rfl,bel.frame _,fun h=>by cases h⟩
theorem alD:Rows.storeApartUptoRow.holds Tryz.pinned (Rows.OpenSpec.upto Rows.storeApartSpec):=
  OpenClaim.holds_of_cond 4 Tryz.f4 rfl rfl rfl rfl rfl rfl rfl ⟨rfl,rfl,rfl,rfl,rfl⟩ rfl rfl rfl rfl rfl (by kernel_rfl) Tryz.func4 atb
    (Lz (by kernel_rfl)) (by unfold Func.isWrapper;first | (rw[mc (by decide+kernel)];kernel_rfl) | (rw[ma (by decide+kernel)];exact⟨rfl,rfl⟩))
    (fun os started H enc _ F=>akw os started H enc F)
/-! the card's closed facts, each a lemma of its own -/
set_option maxRecDepth 100000 in
theorem awB:Rows.storeApartUptoRow.wfByText (Rows.OpenSpec.upto Rows.storeApartSpec)=true:=by kernel_rfl
set_option maxRecDepth 100000 in
theorem au2:Tryz.prog.mainIs=some (true, "49eed35f75761d902e5bd58df56efda49f97cffcfa98a6c6e8fddb4c184c610c".toList):=by kernel_rfl
set_option maxRecDepth 100000 in
theorem atc:true=Tryz.prog.looks []:=by kernel_rfl
set_option maxRecDepth 100000 in
theorem au3:false=Rows.storeApartUptoRow.goesBy Tryz.prog:=by kernel_rfl
end Go.Proofs.YtomdigihapdhnaaGreatDoor.Zt
namespace Go.Proofs.YtomdigihapdhnaaGreatDoor
open Go
/-- The card, for the claim. -/
theorem storeApart_holds:Rows.StoreApartUptoCardSaid:=
  Claim7.holds_tied_plain_at .later [] [.data,.data,.data,.data,.sentinel,.pinned] true (true, "49eed35f75761d902e5bd58df56efda49f97cffcfa98a6c6e8fddb4c184c610c") true
    Zt.alD (fun _ h=>by cases h) Zt.awB (fun _ h=>by cases h) storeApartUpto_row_tie rfl ⟨rfl,rfl⟩ Zt.au2 rfl
    (fun f fn hf hfn=>by
      obtain rfl:f=4:=mB ((show Tryz.prog.funcNamed "althing/althinglaw17.StoreApart" =some 4 by kernel_rfl).symm.trans hf) |>.symm
      obtain rfl:fn=Tryz.f4:=(mB (Tryz.func4.symm.trans hfn)).symm
      exact⟨Zt.atc,fun j t ht=>by
        rw[Tryz.params4]at ht
        have hm:t∈[50,9]:=by simpa using Array.mem_of_getElem? ht
        have hall:([50,9].all fun u=> !Tryz.prog.wantsStandIn u)=true:=by kernel_rfl
        exact(show Tryz.prog.wantsStandIn t=false by simpa using mI.1 hall t hm)⟩)
    Zt.au3
end Go.Proofs.YtomdigihapdhnaaGreatDoor
