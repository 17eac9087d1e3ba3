/- Sessions that set one node only at the version that they say are told so, and are done, just if it is the one: for every input. No other condition beside what the card says of the package variables, which are as the program's text lays them. -/
import Derived.SevenTiedAt
import Derived.Test.YtomdigihapdhnaaGreatDoorRows
import Derived.Test.YtomdigihapdhnaaGreatDoorCards
import Derived.Test.YtomdigihapdhnaaGreatDoorTie
import Derived.Test.YtomdigihapdhnaaGreatDoorXT
namespace Go.Proofs.YtomdigihapdhnaaGreatDoor.Zt
open Go Go.Proofs.YtomdigihapdhnaaGreatDoor.SL Go.ChangeShapes Go.WideShapes Go.ChangeAt Go.RowKit
set_option maxRecDepth 100000 in
theorem aiH(os:Os)(started:os.Started)(H:Type)(enc:TypeId×Value->H):
    ReturnsInHanded {} Tryz.checked os 6 .any (fun w args=>(Rows.storeSwapsSpec.pre enc Tryz.prog Tryz.f6 [] false w args/\laidMetH Tryz.prog ajU w)/\sizedMet enc Tryz.prog Tryz.f6 (OpenSpec.ofChange Rows.storeSwapsSpec) false w args)
      (Rows.storeSwapsSpec.post enc Tryz.prog Tryz.f6 false true false false):=by
  refine auj (C:=Tryz.checked) (X:=fun w _=>laidMetH Tryz.prog ajU w) (fun _ _ _ hh h=>h.of_heap hh) own started (by kernel_rfl) Tryz.func6
    (ChangeSpec.witness_shaped (enc:=enc) (C:=Tryz.checked) (os:=os) (X:=fun w _=>laidMetH Tryz.prog ajU w) false (World.laidAll Tryz.prog os ajU) #[.int .i64 0,.slice none 0 0] 8 (World.laidAll_os _ _ _)
      (World.shaped_of_ZipB (by kernel_rfl) (by kernel_rfl)) (by kernel_rfl) (by kernel_rfl) (by kernel_rfl)
      (by rw[MakeChecks.laidMetH_plain _ _ _ (by kernel_rfl)];exact laidMet_laidAll _ (by kernel_rfl) (by kernel_rfl))) ?_
  intro W base args ds gs before hval0 hW _ hsz0 hL hsh _
  have hval:∀ (j:Nat) t v,Tryz.f6.params[j]?=some t->args[j]?=some v->Value.okWide Tryz.prog W .any base t v:=hval0
  have hsz:(DataW.weightsEach Tryz.prog (Tryz.f6.params.toList++Rows.storeSwapsSpec.plain.varTypes Tryz.prog) (ds++gs)).all (· <=reachBytes)=true:=hsz0
  have hW':=hW
  obtain⟨p,q,hA0,hV,rfl,hfz,hnd⟩:=hW
  have hA:DataW.TrodAll enc Tryz.prog W 0 (fun _=>true) true Tryz.f6.params.toList args.toList ds p:=hA0
  rw[Tryz.params6]at hA hval hsz
  obtain⟨v0,vs0,d0,ds0,p0,q0,hargs,rfl,rfl,h0,r0⟩:=trodAll_cons hA
  obtain⟨v1,vs1,d1,ds1,p1,q1,rfl,rfl,rfl,h1,r1⟩:=trodAll_cons r0
  obtain⟨rfl,rfl,rfl⟩:=trodAll_nil r1
  obtain rfl:args= #[v0,v1]:=by cases args;simp_all
  obtain⟨rfl,rfl⟩:=trodVars_none hV
  have g:=atO hsh hL
  obtain⟨x0,rfl⟩:=okWide_int Zt.u3' (hval 0 3 v0 rfl rfl)
  obtain⟨a1,len1,cap1,rfl⟩:=okWide_slice Zt.uPs (hval 1 69 v1 rfl rfl)
  have u1:SL.Arg Tryz.prog W H enc 69 [.slice a1 len1 cap1]:=by
    obtain⟨m,hm⟩:=h1
    exact⟨m,d1,p1,hm,SL.ajS (i:=1) rfl rfl hsz⟩
  obtain⟨l,hR⟩:=Zt.ati (s:=⟨a1,len1,cap1⟩) u1
  have hc:SL.qc Tryz.prog W (all W) 6 #[.int .i64 x0,Sl.v ⟨a1,len1,cap1⟩] (fun _=>none) fun v _=>v= .bool true:=
    SL.qc.mono (aoQ (B:=W) (I:=fun _=>none) (Q:=fun r _=>r=true) g hR fun _=>rfl) fun v I ⟨r,hv,hr⟩=>by rw[hv,hr]
  refine(aqi hc).mono fun e W' ⟨⟨v,he,hv⟩,bel⟩=>?_
  subst hv
  subst he
  exact⟨_,rfl,_,_,_,[],_,[],hW',trodAll_mk1 (shut_bool Zt.aui _),(trodAll_cons_mk (Below.trod akx (by kernel_rfl) (of_decide_eq_true (by kernel_rfl)) h0 bel (amf h0)) (trodAll_cons_mk (Below.trod akx (by kernel_rfl) (of_decide_eq_true (by kernel_rfl)) h1 bel (amf h1)) trodAll_mk0)),rfl,bel.frame _,fun h=>by cases h⟩
theorem ajB:Rows.storeSwapsRow.holds Tryz.pinned (OpenSpec.ofChange Rows.storeSwapsSpec):=
  OpenClaim.holds_of_wide 6 Tryz.f6 rfl rfl rfl rfl rfl rfl rfl ⟨rfl,rfl,rfl,rfl,rfl⟩ rfl rfl rfl rfl rfl (by kernel_rfl) Tryz.func6 ap8
    (of_decide_eq_true (by kernel_rfl)) (by unfold Func.isWrapper;first | (rw[if_pos (by decide+kernel)];kernel_rfl) | (rw[if_neg (by decide+kernel)];exact⟨rfl,rfl⟩))
    (fun os started H enc _=>aiH os started H enc)
/-! the card's closed facts, each a lemma of its own -/
set_option maxRecDepth 100000 in
theorem atl:Rows.storeSwapsRow.wfByText (OpenSpec.ofChange Rows.storeSwapsSpec)=true:=by kernel_rfl
set_option maxRecDepth 100000 in
theorem arT:Tryz.prog.mainIs=some (true, "49eed35f75761d902e5bd58df56efda49f97cffcfa98a6c6e8fddb4c184c610c".toList):=by kernel_rfl
set_option maxRecDepth 100000 in
theorem ap9:true=Tryz.prog.looks []:=by kernel_rfl
set_option maxRecDepth 100000 in
theorem arU:false=Rows.storeSwapsRow.goesBy Tryz.prog:=by kernel_rfl
end Go.Proofs.YtomdigihapdhnaaGreatDoor.Zt
namespace Go.Proofs.YtomdigihapdhnaaGreatDoor
open Go
/-- The card, for the claim. -/
theorem storeSwaps_holds:Rows.StoreSwapsCardSaid:=
  Claim7.holds_tied_plain_at .later [] [.data,.data,.data,.data,.sentinel,.pinned] true (true, "49eed35f75761d902e5bd58df56efda49f97cffcfa98a6c6e8fddb4c184c610c") true
    Zt.ajB (fun _ h=>by cases h) Zt.atl (fun _ h=>by cases h) storeSwaps_row_tie rfl ⟨rfl,rfl⟩ Zt.arT rfl
    (fun f fn hf hfn=>by
      obtain rfl:f=6:=Option.some.inj ((show Tryz.prog.funcNamed "althing/althinglaw17.StoreSwaps" =some 6 by kernel_rfl).symm.trans hf) |>.symm
      obtain rfl:fn=Tryz.f6:=(Option.some.inj (Tryz.func6.symm.trans hfn)).symm
      exact⟨Zt.ap9,fun j t ht=>by
        rw[Tryz.params6]at ht
        have hm:t∈[3,69]:=by simpa using Array.mem_of_getElem? ht
        have hall:([3,69].all fun u=> !Tryz.prog.wantsStandIn u)=true:=by kernel_rfl
        exact(show Tryz.prog.wantsStandIn t=false by simpa using List.all_eq_true.1 hall t hm)⟩)
    Zt.arU
end Go.Proofs.YtomdigihapdhnaaGreatDoor
