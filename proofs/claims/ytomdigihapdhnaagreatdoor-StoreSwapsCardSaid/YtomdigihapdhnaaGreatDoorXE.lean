import Derived.Shelf.Strings.Builder1
import Derived.Shelf.Strings.Builder2
import Derived.Shelf.Small.Bits
import Derived.Shelf.Strings.BuilderF
import Derived.Shelf.Utf8.RuneCount
import Derived.Shelf.Strconv.Itoa0
import Derived.Shelf.Strconv.Itoa1
import Derived.Shelf.LaysM
import Derived.Shelf.Strconv.Itoa2
import Derived.Shelf.Strconv.Itoa3
import Derived.Shelf.Bytes.GrowSliceCatch
import Derived.Shelf.Bytes.GrowSlice
import Derived.Shelf.Strings.Search1
import Derived.Shelf.Strings.Search2
import Derived.Shelf.Strings.Search3
import Derived.Shelf.Strings.Count
import Derived.Shelf.Strings.Shaped
import Derived.Shelf.Strings.Prefix
import Derived.Shelf.Strings.Split
import Derived.Shelf.Strings.SplitShaped
import Derived.Shelf.Unicode.Decode
import Derived.Shelf.Strings.RuneCount
import Derived.Shelf.Strings.Explode
import Derived.Shelf.Bits.Mul64
import Derived.Shelf.Strings.Repeat
import Derived.Shelf.Unicode.DecodeSlow
import Derived.Shelf.Unicode.DecodeAny
import Derived.Ground.Names2Prog
import Derived.Shelf.Slices.Clone
import Derived.Shelf.Slices.SearchI
import Derived.Ground.SlgnProg
import Derived.Shelf.SlicesE.Clone
import Derived.Ground.SlgmProg
import Derived.Shelf.SortM.Plain
import Derived.Shelf.SortM.SortNone
import Derived.Shelf.SlIter.Nil
import Derived.Ground.GgzProg
import Derived.Laws.RangeString
import Derived.Test.YtomdigihapdhnaaGreatDoorProg
import Derived.Test.YtomdigihapdhnaaGreatDoorXD
set_option linter.all false
set_option maxRecDepth 99999
set_option maxHeartbeats 0
open Go.IntKind(i64)
open Go.Proofs.Tryz
namespace Go.Proofs.YtomdigihapdhnaaGreatDoor.Pa
open Go SL
variable{ps:List Str}{l x:Str}
def okc(c:UInt8):Bool:=(97<=c.toNat && c.toNat<=122) || (48<=c.toNat && c.toNat<=57) || c.toNat == 46 || c.toNat == 95 || c.toNat == 45
def we(l:Str):Bool:=decide (1<=l.length) && decide (l.length<=32) && (l != [46]) && (l != [46,46]) && l.all okc
def cut:Str->List Str
 | []=>[[]]
 | c::r=>if c=47 then []::cut r else match cut r with | []=>[[c]] | h::t=>(c::h)::t
def parts(l:Str):Option (List Str):=
 if l=[47]then some []
 else if l.length<=128/\l.head?=some 47/\(cut (l.drop 1)).length<=8/\(cut (l.drop 1)).all we=true then some (cut (l.drop 1))else none
def mk(ps:List Str):Str:=if ps=[]then [47]else ps.flatMap (fun x=>47::x)
theorem amd(l:Str):cut l≠[]:=by
 cases l with
 | nil=>simp[cut]
 | cons c r=>unfold cut;split<;>(try split)<;>simp
theorem acQ(h:we x=true):47∉x:=by
 intro hm
 unfold we at h
 simp only[Bool.and_eq_true,List.all_eq_true]at h
 have:=h.2 47 hm
 exact absurd this (by decide)
theorem aa4(h:we x=true):1<=x.length/\x.length<=32:=by
 unfold we at h
 simp only[Bool.and_eq_true,decide_eq_true_eq]at h
 exact⟨h.1.1.1.1,h.1.1.1.2⟩
theorem aql(l:Str):(cut l).flatMap (fun x=>47::x)=47::l:=by
 induction l with
 | nil=>rfl
 | cons c r ih=>
  unfold cut
  split
  .rename_i h;subst h
   rw[List.flatMap_cons,ih];try rfl
  .split
   .rename_i h;exact absurd h (amd r)
   .rename_i h t e
    rw[e,List.flatMap_cons]at ih
    rw[List.flatMap_cons]
    simp only[List.cons_append,List.cons.injEq,true_and]at ih⊢
    exact ih
theorem ame(x:Str)(hx:47∉x):cut x=[x]:=by
 induction x with
 | nil=>rfl
 | cons c x ih=>
  simp at hx
  unfold cut
  rw[if_neg (fun e=>hx.1 e.symm),ih hx.2]
theorem anq(x r:Str)(hx:47∉x):cut (x++47::r)=x::cut r:=by
 induction x with
 | nil=>rw[List.nil_append];conv=>lhs;unfold cut
        rw[if_pos rfl]
 | cons c x ih=>
  simp at hx
  rw[List.cons_append]
  conv=>lhs;unfold cut
  rw[if_neg (fun e=>hx.1 e.symm),ih hx.2]
theorem ahQ:∀ (ps:List Str),ps≠[]->(∀x∈ps,47∉x)->cut ((ps.flatMap (fun x=>47::x)).drop 1)=ps:=by
 intro ps
 induction ps with
 | nil=>intro h;exact absurd rfl h
 | cons x ps ih=>
  intro _ hx
  rw[List.flatMap_cons]
  cases ps with
  | nil=>simpa using ame x (hx x (by simp))
  | cons y ps=>
   have:=ih (by simp) fun z hz=>hx z (by simp[hz])
   rw[List.flatMap_cons]at this⊢
   simp only[List.cons_append,List.drop_succ_cons,List.drop_zero]at this⊢
   rw[anq x _ (hx x (by simp)),this]
theorem aiw(ps:List Str):∃ r,mk ps=47::r:=by
 unfold mk
 cases ps with
 | nil=>exact⟨[],rfl⟩
 | cons x ps=>exact⟨_,rfl⟩
structure afN(ps:List Str):Prop where
 n:ps.length<=8
 ok:∀ x∈ps,we x=true
 len:(mk ps).length<=128
theorem arM(hn:ps≠[])(hx:∀ x∈ps,we x=true):mk ps≠[47]:=by
 unfold mk;rw[if_neg hn]
 cases ps with
 | nil=>exact absurd rfl hn
 | cons x ps=>
  rw[List.flatMap_cons]
  have:=(aa4 (hx x (by simp))).1
  intro h
  have:=congrArg List.length h
  simp at this
  have:x=[]:=this.1
  subst this
  simp at*
theorem wd:parts l=some ps↔l=mk ps/\afN ps:=by
 constructor
 .intro h
  unfold parts at h
  split at h
  .rename_i e;cases h;exact⟨e,by simp,by simp,by decide⟩
  .split at h
   .rename_i e1 e2
    cases h
    obtain⟨h1,h2,h3,h4⟩:=e2
    cases l with
    | nil=>cases h2
    | cons c r=>
     cases h2
     simp only[List.drop_succ_cons,List.drop_zero]at*
     have e:mk (cut r)=47::r:=by unfold mk;rw[if_neg (amd r),aql]
     exact⟨e.symm,h3,by simpa using h4,by rw[e];exact h1⟩
   .cases h
 .rintro⟨rfl,h⟩
  unfold parts
  by_cases hn:ps=[]
  .subst hn;rfl
  .rw[if_neg (arM hn h.ok)]
   have e:cut ((mk ps).drop 1)=ps:=by unfold mk;rw[if_neg hn];exact ahQ ps hn fun x hx=>acQ (h.ok x hx)
   rw[e,if_pos]
   obtain⟨r,hr⟩:=aiw ps
   exact⟨h.len,by rw[hr];try rfl,h.n,by simpa using h.ok⟩
theorem aoY{qs:List Str}(hp:afN ps)(hq:afN qs)(h:mk ps=mk qs):ps=qs:=by
 have a:=wd.2 ⟨rfl,hp⟩
 have b:=wd.2 ⟨h,hq⟩
 rw[a]at b;exact Option.some.inj b
def li(l:Str):Nat->Int
 | 0=> -1
 | k+1=>if l[k]?=some 47 then(k:Int)else li l k
theorem arZ(a x:Str)(hx:47∉x):∀ k,k<=x.length->li (a++47::x) (a.length+1+k)=a.length:=by
 intro k
 induction k with
 | zero=>intro _;show li _ (a.length+1)=_;unfold li;rw[if_pos (by simp)]
 | succ k ih=>
  intro hk
  show li _ ((a.length+1+k)+1)=_
  unfold li
  rw[if_neg,ih (by omega)]
  rw[List.getElem?_append_right (by omega),show a.length+1+k - a.length=k+1 by omega,List.getElem?_cons_succ,List.getElem?_eq_getElem (by omega)]
  intro h
  exact hx ((Option.some.inj h)▸List.getElem_mem _)
theorem abs(ps:List Str)(x:Str):mk (ps++[x])=(if ps=[]then []else mk ps)++47::x:=by
 unfold mk
 rw[if_neg (by simp),List.flatMap_append]
 cases ps with
 | nil=>simp
 | cons y ps=>simp
theorem afN.up(h:afN ps):afN ps.dropLast:=by
 rcases List.eq_nil_or_concat ps with rfl | ⟨qs,x,rfl⟩
 .exact h
 .rw[List.concat_eq_append]at h⊢
  rw[List.dropLast_concat]
  refine⟨by have:=h.n;simp at this;omega,fun y hy=>h.ok y (by simp[hy]),?_⟩
  have:=h.len
  rw[abs]at this
  split at this
  .rename_i e;subst e;decide
  .simp at this;omega
theorem asS:∀ (s:Str),47∉s->Lib.index s [47]= -1:=by
 intro s
 induction s with
 | nil=>intro _;rfl
 | cons b l ih=>
  intro h
  simp at h
  unfold Lib.index
  rw[if_neg (by simp;exact h.1),ih h.2];rfl
theorem aoZ:∀ (a r:Str),47∉a->Lib.index (a++47::r) [47]=a.length:=by
 intro a
 induction a with
 | nil=>intro r _;show Lib.index (47::r) [47]=0;unfold Lib.index;rw[if_pos (by simp)]
 | cons b a ih=>
  intro r h
  simp at h
  rw[List.cons_append]
  unfold Lib.index
  rw[if_neg (by simp;exact h.1),ih r h.2,if_neg (by simp)]
  simp
theorem aod:∀ (fuel:Nat) (s:Str),s.length<fuel->Lib.splitK [47] 0 (Lib.countFrom [47] fuel s) s=cut s:=by
 intro fuel
 induction fuel with
 | zero=>intro s h;omega
 | succ n ih=>
  intro s h
  unfold Lib.countFrom
  by_cases hm:47∈s
  .obtain⟨a,r,rfl,ha⟩:=List.eq_append_cons_of_mem hm
   rw[aoZ a r ha,if_neg (by simp),Nat.add_comm 1]
   unfold Lib.splitK
   rw[aoZ a r ha,if_neg (by simp)]
   simp only[Int.toNat_natCast,Nat.add_zero,List.take_left,List.length_cons,List.length_nil]
   have e:(a++47::r).drop (a.length+1)=r:=by
    rw[show a++47::r=(a++[47])++r by simp,show a.length+1=(a++[47]).length by simp,List.drop_left]
   rw[show a.length+(0+1)=a.length+1 by omega,e,ih r (by simp at h;omega),anq a r ha]
  .rw[asS s hm,if_pos (by rfl),ame s hm];try rfl
theorem ak8(s:ByteArray):(Lib.splitB (S [47]) 0 (Lib.countB s (S [47])) s).map L=cut (L s):=by
 rw[show(Lib.splitB (S [47]) 0 (Lib.countB s (S [47])) s).map L=Lib.splitK [47] 0 (Lib.countB s (S [47])) (L s)from Lib.splitB_data _ _ _ _]
 have:Lib.countB s (S [47])=Lib.count (L s) [47]:=rfl
 rw[this]
 exact aod _ _ (by omega)
end Go.Proofs.YtomdigihapdhnaaGreatDoor.Pa
namespace Go.Proofs
open Go.Shelf
def Tryz.laysM171_ren:Go.Shelf.Ren:=⟨fun | 171=>228 | 243=>265 | 246=>316 | 283=>362 | 284=>363 | 285=>364 | 286=>365 | 129=>288 | 317=>388 | 318=>389 | 319=>390 | 320=>391 | 337=>398 | 338=>399 | n=>n,fun | 3=>3 | 9=>9 | 2=>2 | 4=>4 | 171=>528 | 0=>0 | 53=>464 | 37=>24 | 5=>5 | 173=>530 | 212=>545 | 51=>462 | 20=>20 | 213=>546 | 46=>399 | 232=>556 | 233=>557 | n=>n,fun | 17=>2 | 18=>5 | 19=>6 | n=>n⟩
theorem Tryz.laysM171:Go.Proofs.LaysM.n171 prog Tryz.laysM171_ren:={
 mixed:=by kernel_rfl
 f129:=func288.trans (congrArg some (by kernel_rfl))
 f171:=func228.trans (congrArg some (by kernel_rfl))
 f243:=func265.trans (congrArg some (by kernel_rfl))
 f246:=func316.trans (congrArg some (by kernel_rfl))
 f283:=func362.trans (congrArg some (by kernel_rfl))
 f284:=func363.trans (congrArg some (by kernel_rfl))
 f285:=func364.trans (congrArg some (by kernel_rfl))
 f286:=func365.trans (congrArg some (by kernel_rfl))
 f317:=func388.trans (congrArg some (by kernel_rfl))
 f318:=func389.trans (congrArg some (by kernel_rfl))
 f319:=func390.trans (congrArg some (by kernel_rfl))
 f320:=func391.trans (congrArg some (by kernel_rfl))
 f337:=func398.trans (congrArg some (by kernel_rfl))
 f338:=func399.trans (congrArg some (by kernel_rfl))
 t0:=underlying0
 a0:=isAgg0
 z0:=sizeOf0
 v0:=zeroValue0
 t2:=underlying2
 a2:=isAgg2
 z2:=sizeOf2
 v2:=zeroValue2
 t3:=underlying3
 a3:=isAgg3
 z3:=sizeOf3
 v3:=zeroValue3
 t4:=underlying4
 a4:=isAgg4
 z4:=sizeOf4
 v4:=zeroValue4
 t5:=underlying5
 a5:=isAgg5
 z5:=sizeOf5
 v5:=zeroValue5
 t9:=underlying9
 a9:=isAgg9
 z9:=sizeOf9
 v9:=zeroValue9
 t20:=underlying20
 a20:=isAgg20
 z20:=sizeOf20
 v20:=zeroValue20
 t37:=underlying24
 a37:=isAgg24
 z37:=sizeOf24
 v37:=zeroValue24
 t46:=underlying399
 a46:=isAgg399
 z46:=sizeOf399
 v46:=zeroValue399
 t51:=underlying462
 a51:=isAgg462
 z51:=sizeOf462
 v51:=zeroValue462
 t53:=underlying464
 a53:=isAgg464
 z53:=sizeOf464
 v53:=zeroValue464
 t171:=underlying528
 a171:=isAgg528
 z171:=sizeOf528
 v171:=zeroValue528
 t173:=underlying530
 a173:=isAgg530
 z173:=sizeOf530
 v173:=zeroValue530
 t212:=underlying545
 a212:=isAgg545
 z212:=sizeOf545
 v212:=zeroValue545
 t213:=underlying546
 a213:=isAgg546
 z213:=sizeOf546
 t232:=underlying556
 a232:=isAgg556
 z232:=sizeOf556
 v232:=zeroValue556
 t233:=underlying557
 a233:=isAgg557
 z233:=sizeOf557
 v233:=zeroValue557
 g17:=by kernel_rfl
 g18:=by kernel_rfl
 g19:=by kernel_rfl
 i0:=by kernel_rfl
 i2:=by kernel_rfl
 i3:=by kernel_rfl
 i4:=by kernel_rfl
 i5:=by kernel_rfl
 i9:=by kernel_rfl
 i20:=by kernel_rfl
 i37:=by kernel_rfl
 i46:=by kernel_rfl
 i51:=by kernel_rfl
 i53:=by kernel_rfl
 i171:=by kernel_rfl
 i173:=by kernel_rfl
 i212:=by kernel_rfl
 i232:=by kernel_rfl
 i233:=by kernel_rfl
 m17:=by kernel_rfl
 m18:=by kernel_rfl
 m19:=by kernel_rfl}
open Go.RowKit Go.Sort Go.Lib in
theorem Tryz.strconv_Itoa(n:Int)(h0: -9223372036854775808<=n)(h1:n<=9223372036854775807)(w:World)(htab:Lib.TabIs prog w "internal/strconv.uint64pow10" .u64 Lib.pow10Tab):
  Calls prog 228 #[.int .i64 n] w fun e w'=>e= .returned (.string ⟨(Lib.itoa n).toArray⟩)/\∃ k os,w'=grow (w.drewN k) os:=Any.strconv_Itoa Tryz.laysM171 n h0 h1 w htab
def Tryz.laysM290_ren:Go.Shelf.Ren:=⟨fun | 290=>226 | 324=>263 | n=>n,fun | 37=>24 | 3=>3 | 0=>0 | 4=>4 | 20=>20 | 75=>224 | 5=>5 | 80=>143 | 9=>9 | n=>n,fun | 14=>0 | n=>n⟩
theorem Tryz.laysM290:Go.Proofs.LaysM.n290 prog Tryz.laysM290_ren:={
 mixed:=by kernel_rfl
 f290:=func226.trans (congrArg some (by kernel_rfl))
 f324:=func263.trans (congrArg some (by kernel_rfl))
 t0:=underlying0
 a0:=isAgg0
 z0:=sizeOf0
 v0:=zeroValue0
 t3:=underlying3
 a3:=isAgg3
 z3:=sizeOf3
 v3:=zeroValue3
 t4:=underlying4
 a4:=isAgg4
 z4:=sizeOf4
 v4:=zeroValue4
 t20:=underlying20
 a20:=isAgg20
 z20:=sizeOf20
 v20:=zeroValue20
 t37:=underlying24
 a37:=isAgg24
 z37:=sizeOf24
 v37:=zeroValue24
 t75:=underlying224
 a75:=isAgg224
 z75:=sizeOf224
 v75:=zeroValue224
 g14:=by kernel_rfl
 t5:=underlying5
 a5:=isAgg5
 z5:=sizeOf5
 v5:=zeroValue5
 t9:=underlying9
 a9:=isAgg9
 z9:=sizeOf9
 v9:=zeroValue9
 t80:=underlying143
 a80:=isAgg143
 z80:=sizeOf143
 v80:=zeroValue143
 i0:=by kernel_rfl
 i3:=by kernel_rfl
 i4:=by kernel_rfl
 i5:=by kernel_rfl
 i9:=by kernel_rfl
 i20:=by kernel_rfl
 i37:=by kernel_rfl
 i75:=by kernel_rfl
 i80:=by kernel_rfl
 m14:=by kernel_rfl}
open Go.RowKit in
theorem Tryz.bytes_growSlice_row(g l c n:Nat)(cur:Array Value)(w:World)(hg:w.heap[g]?=some (.cells cur 5 (0,0)))(hcs:cur.size=c)(hlc:l<=c)(hn:1<=n)(hlim:l+n<=140737488355328)(hc2:c<=140737488355328)(h1:∀ v∈cur.toList.take l,v.oneCell'=true):
  Calls prog 226 #[.slice (some ⟨g,0,none⟩) l c,.int .i64 n] w fun e w'=> ∃cap2 cells,e= .returned (.slice (some ⟨w.heap.size,0,none⟩) l cap2)/\w'.heap[w.heap.size]?=some (.cells cells 5 (0,0))/\
   cells.size=cap2/\cells.toList.take l=cur.toList.take l/\l+n<=cap2/\cap2<=maxLen/\Below w.heap.size w w':=Any.bytes_growSlice_row Tryz.laysM290 g l c n cur w hg hcs hlc hn hlim hc2 h1
open Go.RowKit in
theorem Tryz.bytes_growSlice_nil(n:Nat)(w:World)(hn:1<=n)(hlim:n<=140737488355328):
  Calls prog 226 #[.slice none 0 0,.int .i64 n] w fun e w'=> ∃cap2 cells,e= .returned (.slice (some ⟨w.heap.size,0,none⟩) 0 cap2)/\w'.heap[w.heap.size]?=some (.cells cells 5 (0,0))/\
   cells.size=cap2/\n<=cap2/\cap2<=maxLen/\Below w.heap.size w w':=Any.bytes_growSlice_nil Tryz.laysM290 n w hn hlim
def Tryz.lays146_ren:Go.Shelf.Ren:=⟨fun | 146=>193 | 221=>238 | 268=>275 | 138=>276 | 143=>277 | 195=>321 | 197=>322 | 218=>323 | 219=>324 | 260=>368 | 217=>369 | 225=>370 | 224=>371 | 267=>372 | 266=>392 | 314=>393 | n=>n,fun | 9=>9 | 31=>27 | 3=>3 | 4=>4 | 0=>0 | 105=>494 | 21=>21 | 5=>5 | 46=>399 | 119=>547 | 139=>550 | 138=>549 | 146=>489 | 51=>462 | n=>n,fun | 1=>1 | 3=>3 | 4=>4 | n=>n⟩
theorem Tryz.lays146:Go.Proofs.Lays.n146 prog Tryz.lays146_ren:={
 mixed:=by kernel_rfl
 f138:=func276.trans (congrArg some (by kernel_rfl))
 f143:=func277.trans (congrArg some (by kernel_rfl))
 f146:=func193.trans (congrArg some (by kernel_rfl))
 f195:=func321.trans (congrArg some (by kernel_rfl))
 f197:=func322.trans (congrArg some (by kernel_rfl))
 f217:=func369.trans (congrArg some (by kernel_rfl))
 f218:=func323.trans (congrArg some (by kernel_rfl))
 f219:=func324.trans (congrArg some (by kernel_rfl))
 f221:=func238.trans (congrArg some (by kernel_rfl))
 f224:=func371.trans (congrArg some (by kernel_rfl))
 f225:=func370.trans (congrArg some (by kernel_rfl))
 f260:=func368.trans (congrArg some (by kernel_rfl))
 f266:=func392.trans (congrArg some (by kernel_rfl))
 f267:=func372.trans (congrArg some (by kernel_rfl))
 f268:=func275.trans (congrArg some (by kernel_rfl))
 f314:=func393.trans (congrArg some (by kernel_rfl))
 t0:=underlying0
 a0:=isAgg0
 z0:=sizeOf0
 v0:=zeroValue0
 t3:=underlying3
 a3:=isAgg3
 z3:=sizeOf3
 v3:=zeroValue3
 t4:=underlying4
 a4:=isAgg4
 z4:=sizeOf4
 v4:=zeroValue4
 t5:=underlying5
 a5:=isAgg5
 z5:=sizeOf5
 v5:=zeroValue5
 t9:=underlying9
 a9:=isAgg9
 z9:=sizeOf9
 v9:=zeroValue9
 t21:=underlying21
 a21:=isAgg21
 z21:=sizeOf21
 v21:=zeroValue21
 t31:=underlying27
 a31:=isAgg27
 z31:=sizeOf27
 v31:=zeroValue27
 t46:=underlying399
 a46:=isAgg399
 z46:=sizeOf399
 v46:=zeroValue399
 t51:=underlying462
 a51:=isAgg462
 z51:=sizeOf462
 v51:=zeroValue462
 t105:=underlying494
 a105:=isAgg494
 z105:=sizeOf494
 v105:=zeroValue494
 t119:=underlying547
 a119:=isAgg547
 z119:=sizeOf547
 t138:=underlying549
 a138:=isAgg549
 z138:=sizeOf549
 v138:=zeroValue549
 t139:=underlying550
 a139:=isAgg550
 z139:=sizeOf550
 v139:=zeroValue550
 t146:=underlying489
 a146:=isAgg489
 z146:=sizeOf489
 v146:=zeroValue489
 g1:=by kernel_rfl
 g3:=by kernel_rfl
 g4:=by kernel_rfl}
open Go.RowKit Go.Lib in
theorem Tryz.strings_Split(s sep:ByteArray)(m:Int)(w:World)(hs:s.size<4294967281)(hm:w.cell? ⟨1,0,none⟩=some (.int .i64 m))(h1:1<=sep.size):
  Calls prog 193 #[.string s,.string sep] w fun e w'=>
   e= .returned (.slice (some ⟨w.heap.size,0,none⟩) (Lib.countB s sep+1) (Lib.countB s sep+1))/\w'=w.alloc (.cells ((Lib.splitB sep 0 (Lib.countB s sep) s).map Value.string).toArray 9):=Any.strings_Split Tryz.lays146 (by kernel_rfl) s sep m w hs hm h1
def Tryz.laysM146_ren:Go.Shelf.Ren:=⟨fun | 146=>193 | 221=>238 | 268=>275 | 138=>276 | 143=>277 | 195=>321 | 197=>322 | 218=>323 | 219=>324 | 260=>368 | 217=>369 | 225=>370 | 224=>371 | 267=>372 | 266=>392 | 314=>393 | n=>n,fun | 9=>9 | 31=>27 | 3=>3 | 4=>4 | 0=>0 | 105=>494 | 21=>21 | 5=>5 | 46=>399 | 119=>547 | 139=>550 | 138=>549 | 146=>489 | 51=>462 | n=>n,fun | 1=>1 | 3=>3 | 4=>4 | n=>n⟩
theorem Tryz.laysM146:Go.Proofs.LaysM.n146 prog Tryz.laysM146_ren:={
 mixed:=by kernel_rfl
 f138:=func276.trans (congrArg some (by kernel_rfl))
 f143:=func277.trans (congrArg some (by kernel_rfl))
 f146:=func193.trans (congrArg some (by kernel_rfl))
 f195:=func321.trans (congrArg some (by kernel_rfl))
 f197:=func322.trans (congrArg some (by kernel_rfl))
 f217:=func369.trans (congrArg some (by kernel_rfl))
 f218:=func323.trans (congrArg some (by kernel_rfl))
 f219:=func324.trans (congrArg some (by kernel_rfl))
 f221:=func238.trans (congrArg some (by kernel_rfl))
 f224:=func371.trans (congrArg some (by kernel_rfl))
 f225:=func370.trans (congrArg some (by kernel_rfl))
 f260:=func368.trans (congrArg some (by kernel_rfl))
 f266:=func392.trans (congrArg some (by kernel_rfl))
 f267:=func372.trans (congrArg some (by kernel_rfl))
 f268:=func275.trans (congrArg some (by kernel_rfl))
 f314:=func393.trans (congrArg some (by kernel_rfl))
 t0:=underlying0
 a0:=isAgg0
 z0:=sizeOf0
 v0:=zeroValue0
 t3:=underlying3
 a3:=isAgg3
 z3:=sizeOf3
 v3:=zeroValue3
 t4:=underlying4
 a4:=isAgg4
 z4:=sizeOf4
 v4:=zeroValue4
 t5:=underlying5
 a5:=isAgg5
 z5:=sizeOf5
 v5:=zeroValue5
 t9:=underlying9
 a9:=isAgg9
 z9:=sizeOf9
 v9:=zeroValue9
 t21:=underlying21
 a21:=isAgg21
 z21:=sizeOf21
 v21:=zeroValue21
 t31:=underlying27
 a31:=isAgg27
 z31:=sizeOf27
 v31:=zeroValue27
 t46:=underlying399
 a46:=isAgg399
 z46:=sizeOf399
 v46:=zeroValue399
 t51:=underlying462
 a51:=isAgg462
 z51:=sizeOf462
 v51:=zeroValue462
 t105:=underlying494
 a105:=isAgg494
 z105:=sizeOf494
 v105:=zeroValue494
 t119:=underlying547
 a119:=isAgg547
 z119:=sizeOf547
 t138:=underlying549
 a138:=isAgg549
 z138:=sizeOf549
 v138:=zeroValue549
 t139:=underlying550
 a139:=isAgg550
 z139:=sizeOf550
 v139:=zeroValue550
 t146:=underlying489
 a146:=isAgg489
 z146:=sizeOf489
 v146:=zeroValue489
 g1:=by kernel_rfl
 g3:=by kernel_rfl
 g4:=by kernel_rfl
 i0:=by kernel_rfl
 i3:=by kernel_rfl
 i4:=by kernel_rfl
 i5:=by kernel_rfl
 i9:=by kernel_rfl
 i21:=by kernel_rfl
 i31:=by kernel_rfl
 i46:=by kernel_rfl
 i51:=by kernel_rfl
 i105:=by kernel_rfl
 i138:=by kernel_rfl
 i139:=by kernel_rfl
 i146:=by kernel_rfl
 m1:=by kernel_rfl
 s1_3:=fun w h=>Go.Proofs.cell_of_shapedOpen_int (zero:= #[.int .i64 0]) (t:=3) h (of_decide_eq_true (by kernel_rfl)) (by kernel_rfl) rfl (by kernel_rfl) (by kernel_rfl) underlying3
 m3:=by kernel_rfl
 m4:=by kernel_rfl}
def Tryz.lays105_ren:Go.Shelf.Ren:=⟨fun | 105=>229 | 212=>266 | 99=>138 | 165=>267 | 166=>268 | 170=>269 | 169=>270 | 263=>317 | 264=>318 | 206=>197 | 240=>319 | 241=>320 | 276=>366 | 277=>367 | n=>n,fun | 9=>9 | 3=>3 | 4=>4 | 20=>20 | 0=>0 | 46=>399 | 109=>445 | 5=>5 | 72=>449 | 76=>225 | 51=>462 | 146=>489 | 53=>464 | 148=>491 | 70=>447 | 37=>24 | 75=>224 | 127=>493 | 164=>532 | 80=>143 | n=>n,fun | n=>n⟩
theorem Tryz.lays105:Go.Proofs.Lays.n105 prog Tryz.lays105_ren:={
 mixed:=by kernel_rfl
 f99:=func138.trans (congrArg some (by kernel_rfl))
 f105:=func229.trans (congrArg some (by kernel_rfl))
 f165:=func267.trans (congrArg some (by kernel_rfl))
 f166:=func268.trans (congrArg some (by kernel_rfl))
 f169:=func270.trans (congrArg some (by kernel_rfl))
 f170:=func269.trans (congrArg some (by kernel_rfl))
 f206:=func197.trans (congrArg some (by kernel_rfl))
 f212:=func266.trans (congrArg some (by kernel_rfl))
 f240:=func319.trans (congrArg some (by kernel_rfl))
 f241:=func320.trans (congrArg some (by kernel_rfl))
 f263:=func317.trans (congrArg some (by kernel_rfl))
 f264:=func318.trans (congrArg some (by kernel_rfl))
 f276:=func366.trans (congrArg some (by kernel_rfl))
 f277:=func367.trans (congrArg some (by kernel_rfl))
 t0:=underlying0
 a0:=isAgg0
 z0:=sizeOf0
 v0:=zeroValue0
 t3:=underlying3
 a3:=isAgg3
 z3:=sizeOf3
 v3:=zeroValue3
 t4:=underlying4
 a4:=isAgg4
 z4:=sizeOf4
 v4:=zeroValue4
 t5:=underlying5
 a5:=isAgg5
 z5:=sizeOf5
 v5:=zeroValue5
 t9:=underlying9
 a9:=isAgg9
 z9:=sizeOf9
 v9:=zeroValue9
 t20:=underlying20
 a20:=isAgg20
 z20:=sizeOf20
 v20:=zeroValue20
 t37:=underlying24
 a37:=isAgg24
 z37:=sizeOf24
 v37:=zeroValue24
 t46:=underlying399
 a46:=isAgg399
 z46:=sizeOf399
 v46:=zeroValue399
 t51:=underlying462
 a51:=isAgg462
 z51:=sizeOf462
 v51:=zeroValue462
 t53:=underlying464
 a53:=isAgg464
 z53:=sizeOf464
 v53:=zeroValue464
 t70:=underlying447
 a70:=isAgg447
 z70:=sizeOf447
 v70:=zeroValue447
 t72:=underlying449
 a72:=isAgg449
 z72:=sizeOf449
 v72:=zeroValue449
 t75:=underlying224
 a75:=isAgg224
 z75:=sizeOf224
 v75:=zeroValue224
 t76:=underlying225
 a76:=isAgg225
 z76:=sizeOf225
 v76:=zeroValue225
 t109:=underlying445
 a109:=isAgg445
 z109:=sizeOf445
 v109:=zeroValue445
 t127:=underlying493
 a127:=isAgg493
 z127:=sizeOf493
 v127:=zeroValue493
 t146:=underlying489
 a146:=isAgg489
 z146:=sizeOf489
 v146:=zeroValue489
 t148:=underlying491
 a148:=isAgg491
 z148:=sizeOf491
 v148:=zeroValue491
 t164:=underlying532
 a164:=isAgg532
 z164:=sizeOf532
 v164:=zeroValue532}
theorem aiJ:Builder.Extra prog Tryz.lays105_ren:={
 sizeBuilder:=by kernel_rfl
 liesBuilder:=by kernel_rfl
 t5:=underlying5
 a5:=isAgg5
 z5:=sizeOf5
 v5:=zeroValue5
 infoByte:=by kernel_rfl
 cellsByte:=by kernel_rfl
 sizeByte:=by kernel_rfl
 neB5:=by decide}
open Go.RowKit Go.Lib in
theorem Tryz.strings_Repeat(s:ByteArray)(c:Nat)(w:World)(hc:c<=9223372036854775807)(hlen:s.size*c<=140737488355328):
  Calls prog 229 #[.string s,.int .i64 c] w fun e w'=>e= .returned (.string ⟨(Lib.repeatL s.data.toList c).toArray⟩)/\Below w.heap.size w w':=Any.strings_Repeat Tryz.lays105 aiJ s c w hc hlen
def aiZ:Go.Shelf.Ren:=⟨fun | 7=>137 | 10=>196 | n=>n,fun | 23=>237 | 26=>9 | 3=>164 | 28=>270 | 0=>0 | 27=>269 | 33=>99 | 4=>4 | n=>n,fun | n=>n⟩
theorem anr:Go.Proofs.SlLaysZ.n7 prog aiZ:={
 mixed:=by kernel_rfl
 f7:=⟨f137.name,by decide,func137.trans (congrArg some (by kernel_rfl))⟩
 f10:=⟨f196.name,by decide,func196.trans (congrArg some (by kernel_rfl))⟩
 t0:=underlying0
 a0:=isAgg0
 z0:=sizeOf0
 v0:=zeroValue0
 t4:=underlying4
 a4:=isAgg4
 z4:=sizeOf4
 v4:=zeroValue4
 t23:=underlying237
 a23:=isAgg237
 z23:=sizeOf237
 v23:=zeroValue237
 t26:=underlying9
 a26:=isAgg9
 z26:=sizeOf9
 v26:=zeroValue9
 t27:=underlying269
 a27:=isAgg269
 z27:=sizeOf269
 v27:=zeroValue269
 t28:=underlying270
 a28:=isAgg270
 z28:=sizeOf270
 v28:=zeroValue270
 t33:=underlying99
 a33:=isAgg99
 z33:=sizeOf99
 v33:=zeroValue99}
def ahs:Go.Shelf.Ren:=⟨fun | 6=>136 | 8=>194 | 9=>195 | 11=>239 | 13=>241 | 12=>240 | 23=>287 | 24=>288 | 14=>278 | 15=>279 | 16=>280 | 17=>281 | 18=>282 | 19=>283 | 20=>284 | 21=>285 | 22=>286 | 25=>325 | 26=>326 | 27=>327 | 28=>328 | 29=>329 | 30=>261 | 31=>373 | n=>n,fun | 26=>9 | 28=>270 | 24=>27 | 0=>0 | 3=>3 | 37=>399 | 48=>462 | 50=>464 | 4=>4 | 40=>456 | 39=>455 | 45=>300 | 5=>5 | 9=>9 | 51=>496 | 55=>500 | 57=>534 | 58=>344 | 33=>99 | n=>n,fun | n=>n⟩
theorem ao0:Go.Proofs.SlLaysZ.n6 prog ahs:={
 mixed:=by kernel_rfl
 f6:=⟨f136.name,by decide,func136.trans (congrArg some (by kernel_rfl))⟩
 f8:=⟨f194.name,by decide,func194.trans (congrArg some (by kernel_rfl))⟩
 f11:=⟨f239.name,by decide,func239.trans (congrArg some (by kernel_rfl))⟩
 t0:=underlying0
 a0:=isAgg0
 z0:=sizeOf0
 v0:=zeroValue0
 t24:=underlying27
 a24:=isAgg27
 z24:=sizeOf27
 v24:=zeroValue27
 t26:=underlying9
 a26:=isAgg9
 z26:=sizeOf9
 v26:=zeroValue9
 t28:=underlying270
 a28:=isAgg270
 z28:=sizeOf270
 v28:=zeroValue270
 i26:=by kernel_rfl}
def amY:Go.Shelf.Ren:=⟨fun | 6=>195 | 8=>241 | 9=>240 | 19=>287 | 20=>288 | 21=>278 | 22=>279 | 23=>280 | 24=>281 | 25=>282 | 26=>283 | 27=>284 | 28=>285 | 29=>286 | 36=>325 | 31=>326 | 32=>327 | 37=>328 | 38=>329 | 39=>261 | 41=>373 | n=>n,fun | 27=>27 | 29=>9 | 3=>3 | 32=>399 | 26=>27 | 0=>0 | 44=>462 | 46=>464 | 4=>4 | 36=>456 | 35=>455 | 41=>300 | 5=>5 | 9=>9 | 53=>496 | 57=>500 | 63=>534 | 64=>344 | n=>n,fun | n=>n⟩
theorem ans:Go.Proofs.SlLaysM.n6 prog amY:={
 mixed:=by kernel_rfl
 f6:=⟨f195.name,by decide,func195.trans (congrArg some (by kernel_rfl))⟩
 f8:=func241.trans (congrArg some (by kernel_rfl))
 f9:=⟨f240.name,by decide,func240.trans (congrArg some (by kernel_rfl))⟩
 f19:=func287.trans (congrArg some (by kernel_rfl))
 f20:=func288.trans (congrArg some (by kernel_rfl))
 f21:=⟨f278.name,by decide,func278.trans (congrArg some (by kernel_rfl))⟩
 f22:=⟨f279.name,by decide,func279.trans (congrArg some (by kernel_rfl))⟩
 f23:=⟨f280.name,by decide,func280.trans (congrArg some (by kernel_rfl))⟩
 f24:=⟨f281.name,by decide,func281.trans (congrArg some (by kernel_rfl))⟩
 f25:=⟨f282.name,by decide,func282.trans (congrArg some (by kernel_rfl))⟩
 f26:=⟨f283.name,by decide,func283.trans (congrArg some (by kernel_rfl))⟩
 f27:=⟨f284.name,by decide,func284.trans (congrArg some (by kernel_rfl))⟩
 f28:=⟨f285.name,by decide,func285.trans (congrArg some (by kernel_rfl))⟩
 f29:=⟨f286.name,by decide,func286.trans (congrArg some (by kernel_rfl))⟩
 f31:=func326.trans (congrArg some (by kernel_rfl))
 f32:=func327.trans (congrArg some (by kernel_rfl))
 f36:=⟨f325.name,by decide,func325.trans (congrArg some (by kernel_rfl))⟩
 f37:=⟨f328.name,by decide,func328.trans (congrArg some (by kernel_rfl))⟩
 f38:=⟨f329.name,by decide,func329.trans (congrArg some (by kernel_rfl))⟩
 f39:=⟨f261.name,by decide,func261.trans (congrArg some (by kernel_rfl))⟩
 f41:=⟨f373.name,by decide,func373.trans (congrArg some (by kernel_rfl))⟩
 t0:=underlying0
 a0:=isAgg0
 z0:=sizeOf0
 v0:=zeroValue0
 t3:=underlying3
 a3:=isAgg3
 z3:=sizeOf3
 v3:=zeroValue3
 t4:=underlying4
 a4:=isAgg4
 z4:=sizeOf4
 v4:=zeroValue4
 t5:=underlying5
 a5:=isAgg5
 z5:=sizeOf5
 v5:=zeroValue5
 t9:=underlying9
 a9:=isAgg9
 z9:=sizeOf9
 v9:=zeroValue9
 t26:=underlying27
 a26:=isAgg27
 z26:=sizeOf27
 v26:=zeroValue27
 t27:=underlying27
 a27:=isAgg27
 z27:=sizeOf27
 v27:=zeroValue27
 t29:=underlying9
 a29:=isAgg9
 z29:=sizeOf9
 v29:=zeroValue9
 t32:=underlying399
 a32:=isAgg399
 z32:=sizeOf399
 v32:=zeroValue399
 t35:=underlying455
 a35:=isAgg455
 z35:=sizeOf455
 v35:=zeroValue455
 t36:=underlying456
 a36:=isAgg456
 z36:=sizeOf456
 v36:=zeroValue456
 t41:=underlying300
 a41:=isAgg300
 z41:=sizeOf300
 v41:=zeroValue300
 t44:=underlying462
 a44:=isAgg462
 z44:=sizeOf462
 v44:=zeroValue462
 t46:=underlying464
 a46:=isAgg464
 z46:=sizeOf464
 v46:=zeroValue464
 t53:=underlying496
 a53:=isAgg496
 z53:=sizeOf496
 v53:=zeroValue496
 t57:=underlying500
 a57:=isAgg500
 z57:=sizeOf500
 v57:=zeroValue500
 t63:=underlying534
 a63:=isAgg534
 z63:=sizeOf534
 v63:=zeroValue534
 t64:=underlying344
 a64:=isAgg344
 z64:=sizeOf344
 v64:=zeroValue344}
open Go.RowKit Go.Maps Go.Sort in
theorem Tryz.sorts136(m:Nat):AnyZ.SortsIn prog ahs Fence.wide m:=
 ⟨fun blk off cap ss W hH hblk hsz=>callsIn_wide.2 (AnyM.slices_Sort_string ans blk off cap ss W hH hblk hsz),
  fun p cap W=>callsIn_wide.2 (AnyM.slices_Sort_string_none ans p cap W)⟩
open Go.RowKit Go.Maps Go.Sort in
theorem Tryz.maps_Keys_137(mb:Option Nat)(W:World):CallsIn Fence.wide 5 prog 137 #[.map mb] W fun e w'=>e= .returned (.func (.func 196) #[] #[.pointer (some ⟨W.heap.size,0,none⟩)])/\w'=W.alloc (.cells #[.map mb] 237):=
 AnyZ.keys_in anr Fence.wide 5 trivial rfl mb W
end Go.Proofs
namespace Go.Proofs.YtomdigihapdhnaaGreatDoor.Pa
open Go SL G
variable{B:World}{ro I I':AH}{tag tag':Nat->Nat}
variable{Q:Bool->AH->Prop}{s:ByteArray}
theorem inc(j:Nat)(h:j<4611686018427387904):i64.wrap ((j:Int)+1)=((j+1:Nat):Int):=by rw[SL.wb (by omega) (by omega)];try rfl
theorem ahR{a p:ByteArray}(hQ:Q ((L p).isPrefixOf (L a)) I):pn B ro a p I Q:=by
 refine agL fun _=>?_
 unfold aaz
 refine ae0 fun _=>?_
 unfold pC ki
 by_cases h:p.size<=a.size
 .rw[if_pos (by omega)]
  refine⟨⟨⟨by omega,by omega⟩,trivial⟩,?_⟩
  have e:decide (a.extract 0 (Int.toNat (p.size:Int))=p)=(L p).isPrefixOf (L a):=by
   rw[Int.toNat_natCast,Bool.eq_iff_iff,decide_eq_true_iff,List.isPrefixOf_iff_prefix,List.prefix_iff_eq_take]
   constructor
   .intro h';conv=>lhs;rw[<-h']
    rw[<-S_L a,acO];simp[xz]
   .intro h'
    apply pL
    rw[<-S_L a,acO];simp only[L_S,List.drop_zero]
    rw[xz]at h';exact h'.symm
  rw[e];exact hQ
 .rw[if_neg (by omega)]
  have e:(L p).isPrefixOf (L a)=false:=by
   rw[Bool.eq_false_iff]
   intro h'
   have:=(List.isPrefixOf_iff_prefix.1 h').length_le
   rw[xz,xz]at this;exact h this
  rw[e]at hQ;exact hQ
theorem ant{Q:Int->AH->Prop}(hs:s.size<4611686018427387904)(hQ:Q (li (L s) s.size) I):jh B ro s 47 I Q:=by
 refine ae1 fun _=>?_
 unfold pD
 refine adb fun _=>?_
 unfold jf
 rw[SL.wb (by omega) (by omega)]
 suffices∀k,k<=s.size->Q (li (L s) k) I->lfpD (zS B ro s 47 Q) ((k:Int) - 1) I from this s.size (Nat.le_refl _) hQ
 intro k
 induction k with
 | zero=>
  intro _ h
  refine lfpD.intro ?_
  unfold zS
  rw[if_neg (by omega)]
  exact h
 | succ k ih=>
  intro hk h
  refine lfpD.intro ?_
  unfold zS
  rw[if_pos (by omega)]
  have e:((k+1:Nat):Int) - 1=k:=by omega
  rw[e]
  have hkl:k<(L s).length:=by rw[xz];omega
  have hg:s[k]?=some ((L s)[k]):=by
   conv=>lhs;rw[<-S_L s]
   rw[atu,List.getElem?_eq_getElem hkl]
  refine⟨(L s)[k],by omega,by rw[Int.toNat_natCast];exact hg,?_⟩
  unfold li at h
  rw[List.getElem?_eq_getElem hkl]at h
  by_cases c:(L s)[k]=47
  .rw[if_pos (by rw[c])]at h
   rw[if_pos (by rw[c];try rfl)]
   exact h
  .rw[if_neg (by simpa using c)]at h
   rw[if_neg,SL.wb (by omega) (by omega)]
   .exact ih (by omega) h
   .intro h'
    refine c (UInt8.toNat_inj.1 ?_)
    have:((L s)[k].toNat:Int)=47:=h'
    show(L s)[k].toNat=47
    omega
theorem alG{P:Program}{t:TypeId}{s:ByteArray}{K:Value->AH->Prop}(ht:P.underlying t=some .string)(h:∀ b,ro b=none->I b=none->K (.pointer (some ⟨b,0,none⟩)) (upd I b (.stringIter s 0))):awp P ro (Instr.range t (.string s)) K I:=by
 unfold Instr.range
 simp only[qy]
 rw[qw ht]
 exact h
theorem ahS{P:Program}{t:TypeId}{b pos:Nat}{K:Value->AH->Prop}(hro:ro b=none)(hb:I b=some (.stringIter s pos))(h1:s.size<=pos->K (.tuple #[.bool false]) I)
  (h2:pos<s.size->K (.tuple #[.bool true,.int .i64 pos,.int .i32 (Utf8.decode s pos).1]) (upd I b (.stringIter s (pos+(Utf8.decode s pos).2)))):awp P ro (Instr.next (.pointer (some ⟨b,0,none⟩)) true t) K I:=by
 unfold Instr.next
 refine⟨.stringIter s pos,by unfold rd;rw[hro];exact hb,rfl,?_⟩
 show awp P ro (if pos<s.size then _ else _) K I
 by_cases h:pos<s.size
 .rw[if_pos h]
  exact⟨_,hb,rfl,h2 h⟩
 .rw[if_neg h]
  exact h1 (by omega)
theorem aoe(s:ByteArray)(pos:Nat)(h:¬ (s.get! pos).toNat<128):128<=(Utf8.decode s pos).1:=by
 unfold Utf8.decode
 simp only[Nat.add_zero]
 rw[if_neg h]
 repeat' split
 all_goals simp_all [Utf8.runeError]
 all_goals omega
theorem aeQ(hQ:Q (we (L s)) I):yE B ro s I Q:=by
 refine qc.quiet (R:=fun v=>v= .bool (we (L s))) ?_ (fun v hv=>⟨_,hv,hQ⟩)
 have:yE B ro s (fun _=>none) fun r _=>r=we (L s):=by
  refine amb fun hs=>?_
  unfold afL
  by_cases g:((s=⟨#[]⟩\/32<(s.size:Int))\/s=⟨#[46]⟩)\/s=⟨#[46,46]⟩
  .rw[if_pos g]
   show false=we (L s)
   symm
   rw[Bool.eq_false_iff]
   intro h
   unfold we at h
   simp only[Bool.and_eq_true,decide_eq_true_eq,bne_iff_ne]at h
   obtain⟨⟨⟨⟨h1,h2⟩,h3⟩,h4⟩,_⟩:=h
   rcases g with((g | g) | g) | g
   .rw[g]at h1;simp[L]at h1
   .rw[xz]at h2;omega
   .rw[g]at h3;exact h3 rfl
   .rw[g]at h4;exact h4 rfl
  .rw[if_neg g]
   have hall:we (L s)=(L s).all okc:=by
    unfold we
    have e1:1<=(L s).length:=by
     rw[xz]
     rcases Nat.eq_zero_or_pos s.size with h0 | h0
     .exact absurd (.inl (.inl (.inl (pL (List.eq_nil_of_length_eq_zero h0))))) g
     .exact h0
    have e2:(L s).length<=32:=by
     rw[xz]
     rcases Nat.lt_or_ge 32 s.size with h0 | h0
     .exact absurd (.inl (.inl (.inr (by omega)))) g
     .exact h0
    have e3:L s≠[46]:=fun h=>g (.inl (.inr (pL h)))
    have e4:L s≠[46,46]:=fun h=>g (.inr (pL h))
    simp[e1,e2,e3,e4]
   rw[hall]
   have h9:prog.underlying 9=some .string:=by kernel_rfl
   have hr:= @alG ro (fun _=>none) prog 9 s (fun v I=> ∃p21_2,v=Value.pointer (some p21_2)/\lfpD (yV B ro p21_2 fun r x=>r=List.all (L s) okc) () I) h9
   refine hr ?_
   intro b hro hb
   refine⟨⟨b,0,none⟩,rfl,?_⟩
   suffices∀m pos,pos+m=s.size->(∀i,i<pos->∀ c,(L s)[i]?=some c->okc c=true)->∀ I:AH,I b=some (.stringIter s pos)->lfpD (yV B ro ⟨b,0,none⟩ fun r _=>r=(L s).all okc) () I from
    this s.size 0 (Nat.zero_add _) (fun i h=>absurd h (Nat.not_lt_zero _)) _ (qE _ _ _)
   intro m
   induction m with
   | zero=>
    intro pos hp hk I hσ
    refine lfpD.intro ?_
    unfold yV
    refine ahS hro hσ (fun _=> .inl ⟨rfl,?_⟩) (fun h=>by omega)
    show true=(L s).all okc
    symm
    rw[List.all_eq_true]
    intro c hc
    obtain⟨i,hi,e⟩:=List.getElem_of_mem hc
    exact hk i (by rw[xz]at hi;omega) c (by rw[List.getElem?_eq_getElem hi,e])
   | succ m ih=>
    intro pos hp hk I hσ
    have hpl:pos<(L s).length:=by rw[xz];omega
    have hps:pos<s.size:=by omega
    have hget:s[pos]'hps=(L s)[pos]:=rfl
    have hgb:s.get! pos=(L s)[pos]:=by
     have e:s.get! pos=s.data[pos]!:= rfl
     rw[e,getElem!_pos s.data pos (by exact hps)]
     try rfl
    refine lfpD.intro ?_
    unfold yV
    refine ahS hro hσ (fun h=>by omega) (fun _=> .inr ⟨pos,_,rfl,?_⟩)
    by_cases ha:((L s)[pos]).toNat<128
    .rw[decode_ascii s pos hps (by rw[hget];exact ha),hget]
     have step:∀ x:Bool,x=okc ((L s)[pos])->xe B ro ⟨b,0,none⟩ (fun r _=>r=(L s).all okc) (lfpD (yV B ro ⟨b,0,none⟩ fun r _=>r=(L s).all okc)) x (upd I b (.stringIter s (pos+1))):=by
      intro x hx
      unfold xe
      split
      .rename_i hx'
       refine ih (pos+1) (by omega) (fun i hi c hc=>?_) _ (qE _ _ _)
       rcases Nat.lt_or_ge i pos with h | h
       .exact hk i h c hc
       .have:i=pos:=by omega
        subst this
        rw[List.getElem?_eq_getElem hpl]at hc
        cases hc
        exact hx.symm.trans hx'
      .rename_i hx'
       show false=(L s).all okc
       symm
       rw[Bool.eq_false_iff,ne_eq,List.all_eq_true]
       intro h
       exact hx' (hx.trans (h _ (List.getElem_mem hpl)))
     simp only
     generalize (L s)[pos]=c at step
     have iff:∀ x:Bool,(x=true↔okc c=true)->x=okc c:=fun x h=>Bool.eq_iff_iff.2 h
     by_cases b1:(97:Int)<=(c.toNat:Int)/\(c.toNat:Int)<=122
     .rw[if_pos b1]
      exact step _ (iff _ (by simp[okc];omega))
     .rw[if_neg b1]
      by_cases b2:(48:Int)<=(c.toNat:Int)/\(c.toNat:Int)<=57
      .rw[if_pos b2]
       exact step _ (iff _ (by simp[okc];omega))
      .rw[if_neg b2]
       by_cases b3:(c.toNat:Int)=46
       .rw[if_pos b3]
        exact step _ (iff _ (by simp[okc];omega))
       .rw[if_neg b3]
        by_cases b4:(c.toNat:Int)=95
        .rw[if_pos b4]
         exact step _ (iff _ (by simp[okc];omega))
        .rw[if_neg b4]
         exact step _ (iff _ (by simp[okc];omega))
    .have hbig:=aoe s pos (by rw[hgb];exact ha)
     generalize (Utf8.decode s pos).1=x at hbig
     generalize (Utf8.decode s pos).2=y
     have hno:false=(L s).all okc:=by
      symm
      rw[Bool.eq_false_iff,ne_eq,List.all_eq_true]
      intro h
      have:=h _ (List.getElem_mem hpl)
      simp[okc]at this
      omega
     rw[if_neg (by omega),if_neg (by omega),if_neg (by omega),if_neg (by omega)]
     unfold xe
     rw[if_neg (by simp;omega)]
     exact hno
 exact qc.mono this fun v τ ⟨r,hv,hr⟩=>by rw[hv,hr]
end Go.Proofs.YtomdigihapdhnaaGreatDoor.Pa
namespace Go.Proofs.YtomdigihapdhnaaGreatDoor.Pa
open Go SL G Go.RowKit
variable{s:ByteArray}{Q:ByteArray->Int->AH->Prop}{l ps:List Str}{i r:Nat}
structure wV(ro:AH):Prop where
 maxlen:∃ m o,ro 1=some o/\vy ⟨1,0,none⟩ (some o)=some (.int .i64 m)
 tab:∀ w:World,(∀b o,ro b=some o->w.heap[b]?=some o)->Lib.TabIs prog w "internal/strconv.uint64pow10" .u64 Lib.pow10Tab
variable{B:World}{ro I I':AH}{tag tag':Nat->Nat}
theorem anu{w:World}(h:an8 ro I w):∀ b o,ro b=some o->w.heap[b]?=some o:=fun b o hb=>h b o (by unfold rd;rw[hb])
abbrev vS(l:Str):Value:= .string (S l)
theorem aqm{Q:Sl->AH->Prop}(r:Nat)(g:wV ro)(hs:s.size<4294967281)(hQ:∀ sl tag' I',(∀R,qe R ro tag I tag' I')->Row tag' I' r 9 sl ((cut (L s)).map vS)->Q sl I'):
  afu B ro s (⟨#[47]⟩:ByteArray) I Q:=by
 refine qc.of_calls fun w hw hsep=>?_
 obtain⟨m,o,h0,h1⟩:=g.maxlen
 have hm:w.cell? ⟨1,0,none⟩=some (.int .i64 m):=by rw[cell?_eq,anu hw 1 o h0];exact h1
 refine(Tryz.strings_Split s (S [47]) m w hs hm (by decide)).mono ?_
 rintro e w' ⟨he,rfl⟩
 have hmap:(Lib.splitB (S [47]) 0 (Lib.countB s (S [47])) s).map Value.string=(cut (L s)).map vS:=by
  rw[<-ak8,List.map_map]
  refine List.map_congr_left fun x _=>?_
  simp[vS]
 have hlen:(cut (L s)).length=Lib.countB s (S [47])+1:=by
  have:=Lib.splitB_all (S [47]) (by decide) 0 _ s rfl
  rw[<-ak8,List.length_map,this]
 obtain⟨N,tag',hN,hst,hrow⟩:=af6 (tag:=tag) (w':=w.alloc (.cells ((Lib.splitB (S [47]) 0 (Lib.countB s (S [47])) s).map Value.string).toArray 9)) r hw hsep (Nat.le_refl w.heap.size) (heap_alloc_new w _)
 refine⟨_,N,he,(Below.refl _ w).alloc (Nat.le_refl _) _,hN,⟨some ⟨w.heap.size,0,none⟩,Lib.countB s (S [47])+1,Lib.countB s (S [47])+1⟩,rfl,?_⟩
 refine hQ _ tag' _ hst (hrow _ _ _ ?_ ?_ (Nat.le_refl _) ?_)
 .rw[List.length_map,hlen]
 .rw[hmap];simp[hlen]
 .rw[hmap];simp only[List.toList_toArray]
  rw[List.take_of_length_le (by simp[hlen])]
theorem Row.sget{e:TypeId}{s:Sl}(h:Row tag I r e s (l.map vS))(hs:SL.Sep ro I)(hi:i<l.length):
  ∃p,s.a=some p/\s.len=l.length/\∀ j (hj:j<l.length),qa ro I (p.add (j*1))=some (vS l[j]):=by
 obtain⟨p,hp,hg⟩:=h.ptr hs (by simp;omega)
 refine⟨p,hp,by rw[h.len];simp,fun j hj=>hg j _ ?_⟩
 rw[List.getElem?_map,List.getElem?_eq_getElem hj];try rfl
theorem ak9{Q:Sl->Int->AH->Prop}(r:Nat)(g:wV ro)(hnone:parts (L s)=none->∀ I',Q ⟨none,0,0⟩ 20 I')
  (hsome:∀ ps,parts (L s)=some ps->∀ sl tag' I',qe [] ro tag I tag' I'->Row tag' I' r 9 sl (ps.map vS)->Q sl 0 I'):vp B ro s I Q:=by
 refine alF fun hs=>?_
 unfold ae6
 by_cases h1:s=⟨#[47]⟩
 .rw[if_pos h1]
  refine hsome [] ?_ _ tag I (qe.refl hs) (Row.nil r 9)
  subst h1;rfl
 .have hne:L s≠[47]:=fun h=>h1 (pL h)
  rw[if_neg h1]
  by_cases h2:128<(s.size:Int)
  .rw[if_pos h2]
   unfold pH
   rw[if_pos rfl]
   refine hnone ?_ _
   unfold parts;rw[if_neg hne,if_neg]
   intro h;have:=h.1;rw[xz]at this;omega
  .rw[if_neg h2]
   refine ahR ?_
   unfold pH
   by_cases h3:(L s).head?=some 47
   .obtain⟨t,ht⟩:∃ t,L s=47::t:=by
     cases h:L s with
     | nil=>rw[h]at h3;cases h3
     | cons c t=>rw[h]at h3;cases h3;exact⟨t,rfl⟩
    have hp:(L (⟨#[47]⟩:ByteArray)).isPrefixOf (L s)=true:=by rw[ht];try rfl
    rw[hp,if_neg (by decide)]
    have hsz:s.size=t.length+1:=by rw[<-xz,ht];try rfl
    refine⟨⟨trivial,⟨by omega,by show(1:Int)<=(s.size:Int);omega⟩⟩,?_⟩
    have hex:s.extract (Int.toNat 1) s.size=S t:=by
     conv=>lhs;rw[<-S_L s]
     rw[acO,af5,List.take_length,ht];try rfl
    rw[hex]
    refine aqm (tag:=tag) r g (by simp;omega) fun sl tag1 I1 st1 r1=>?_
    rw[L_S]at r1
    have hln:sl.len=(cut t).length:=by rw[r1.len,List.length_map]
    have hdrop:(L s).drop 1=t:=by rw[ht];try rfl
    by_cases h4:(cut t).length<=8
    .rw[if_neg (by omega)]
     suffices∀m j,j+m=(cut t).length->(∀i (hi:i<(cut t).length),i<j->we (cut t)[i]=true)->lfpD (aap B ro sl Q) (j:Int) I1 from
      this _ 0 (Nat.zero_add _) (fun i hi h=>absurd h (Nat.not_lt_zero _))
     intro m
     induction m with
     | zero=>
      intro j hj hk
      refine lfpD.intro ?_
      unfold aap
      rw[if_neg (by omega)]
      unfold acd
      refine hsome (cut t) ?_ sl tag1 I1 (st1 _) r1
      unfold parts
      rw[if_neg hne,hdrop,if_pos]
      refine⟨by rw[xz];omega,h3,h4,?_⟩
      rw[List.all_eq_true]
      intro x hx
      obtain⟨i,hi,e⟩:=List.getElem_of_mem hx
      rw[<-e];exact hk i hi (by omega)
     | succ m ih=>
      intro j hj hk
      have hjl:j<(cut t).length:=by omega
      obtain⟨p,hp,_,hg⟩:=Row.sget r1 (st1 []).sep hjl
      refine lfpD.intro ?_
      unfold aap
      rw[if_pos (by omega)]
      refine⟨p,hp,by omega,by omega,_,hg j hjl,?_⟩
      refine aeQ ?_
      rw[L_S]
      by_cases h5:we (cut t)[j]=true
      .rw[if_neg (by simpa using h5),inc j (by omega)]
       refine ih (j+1) (by omega) fun i hi hij=>?_
       rcases Nat.lt_or_ge i j with h | h
       .exact hk i hi h
       .have:i=j:=by omega
        subst this;exact h5
      .rw[if_pos (by simpa using h5)]
       refine hnone ?_ _
       unfold parts
       rw[if_neg hne,hdrop,if_neg]
       intro h
       have:=List.all_eq_true.1 h.2.2.2 _ (List.getElem_mem hjl)
       exact h5 this
    .rw[if_pos (by omega)]
     refine hnone ?_ _
     unfold parts
     rw[if_neg hne,hdrop,if_neg]
     intro h;exact h4 h.2.2.1
   .have hp:(L (⟨#[47]⟩:ByteArray)).isPrefixOf (L s)=false:=by
     rw[Bool.eq_false_iff]
     intro h
     apply h3
     cases hl:L s with
     | nil=>rw[hl]at h;cases h
     | cons c t=>
      rw[hl]at h
      have:([47]:Str).isPrefixOf (c::t)=true:=h
      simp at this
      rw[<-this];try rfl
    rw[hp,if_pos (by decide)]
    refine hnone ?_ _
    unfold parts
    rw[if_neg hne,if_neg]
    intro h;exact h3 h.2.1
theorem aqn{Q:Sl->Int->AH->Prop}(r:Nat)(g:wV ro)(hnone:parts (L s)=none->∀ sl I',Q sl 20 I')
  (hsome:∀ ps,parts (L s)=some ps->∀ sl tag' I',qe [] ro tag I tag' I'->Row tag' I' r 9 sl (ps.map vS)->Q sl 0 I'):vp B ro s I Q:=ak9 r g (fun h I'=>hnone h _ I') hsome
def chk(l:Str):Int:=if(parts l).isSome then 0 else 20
theorem ug{Q:Int->AH->Prop}(g:wV ro)(hQ:Q (chk (L s)) I):vo B ro s I Q:=by
 refine qc.quiet (R:=fun v=>v= .int .i64 (chk (L s))) ?_ (fun v hv=>⟨_,hv,hQ⟩)
 have:vo B ro s (fun _=>none) fun r _=>r=chk (L s):=by
  refine alD fun hs=>?_
  unfold ae3
  refine aqn (tag:=fun _=>0) 0 g (fun h _ _=>?_) (fun ps h _ _ _ _ _=>?_)
  .show(20:Int)=chk (L s);unfold chk;rw[h];try rfl
  .show(0:Int)=chk (L s);unfold chk;rw[h];try rfl
 exact qc.mono this fun v τ ⟨r,hv,hr⟩=>by rw[hv,hr]
theorem vq{l:Str}:chk l=0↔∃ ps,parts l=some ps:=by
 unfold chk
 cases h:parts l with
 | none=>simp
 | some ps=>simp
theorem ala(h:afN ps):mk ps=[47]↔ps=[]:=
 ⟨fun e=>Classical.byContradiction fun hn=>arM hn h.ok e,fun e=>by rw[e];try rfl⟩
theorem arN{x:Str}(hx:47∉x):li (mk (ps++[x])) (mk (ps++[x])).length=((if ps=[]then []else mk ps).length:Int):=by
 rw[abs]
 have:=arZ (if ps=[]then []else mk ps) x hx x.length (Nat.le_refl _)
 rw[show((if ps=[]then []else mk ps)++47::x).length=(if ps=[]then []else mk ps).length+1+x.length by simp;omega]
 exact this
theorem ajT(ps:List Str):1<=(mk ps).length:=by obtain⟨r,h⟩:=aiw ps;rw[h];simp
def qB(l:Str):Option Str:=match parts l with | some ps=>if ps=[]then none else some (mk ps.dropLast) | none=>none
theorem ad3(g:wV ro)(hnone:qB (L s)=none->Q (⟨#[]⟩:ByteArray) 20 I)(hsome:∀ u,qB (L s)=some u->Q (S u) 0 I):yj B ro s I Q:=by
 refine akv fun hs=>?_
 unfold aem
 by_cases h1:s=⟨#[47]⟩
 .rw[if_pos h1]
  unfold yJ
  rw[if_pos rfl]
  refine hnone ?_
  subst h1;rfl
 .rw[if_neg h1]
  refine ug g ?_
  unfold yJ
  by_cases h2:chk (L s)=0
  .rw[if_neg (by simpa using h2)]
   obtain⟨ps,hps⟩:=vq.1 h2
   obtain⟨hl,hg⟩:=wd.1 hps
   have hne:ps≠[]:=fun e=>h1 (pL (by rw[hl,e];try rfl))
   obtain⟨qs,x,rfl⟩:∃ qs x,ps=qs++[x]:=by
    rcases List.eq_nil_or_concat ps with e | ⟨qs,x,e⟩
    .exact absurd e hne
    .exact⟨qs,x,by rw[e,List.concat_eq_append]⟩
   have hx:47∉x:=acQ (hg.ok x (by simp))
   have hsz:s.size=(mk (qs++[x])).length:=by rw[<-xz,hl]
   have h128:=hg.len
   refine ant (by omega) ?_
   rw[hl,hsz,arN hx]
   have hpar:qB (L s)=some (mk qs):=by unfold qB;rw[hps];simp
   have hlen:(mk (qs++[x])).length=(if qs=[]then []else mk qs).length+1+x.length:=by rw[abs];simp;omega
   have hmax:(if 1<(((if qs=[]then []else mk qs).length:Nat):Int)then(((if qs=[]then []else mk qs).length:Nat):Int)else 1)=((mk qs).length:Int):=by
    by_cases e:qs=[]
    .subst e;rfl
    .rw[if_neg e]
     have:=ajT qs
     split<;>omega
   rw[hmax]
   have hle:(mk qs).length<=(mk (qs++[x])).length:=by
    rw[hlen]
    by_cases e:qs=[]
    .subst e;simp[mk]
    .rw[if_neg e];omega
   refine⟨⟨⟨by omega,by omega⟩,trivial⟩,?_⟩
   rw[Int.toNat_natCast]
   have hex:s.extract 0 (mk qs).length=S (mk qs):=by
    conv=>lhs;rw[<-S_L s]
    rw[acO,hl,List.drop_zero]
    congr 1
    rw[abs]
    by_cases e:qs=[]
    .subst e;rfl
    .rw[if_neg e,List.take_left]
   rw[hex]
   exact hsome _ hpar
  .rw[if_pos (by simpa using h2)]
   refine hnone ?_
   unfold qB
   cases h:parts (L s)with
   | none=>rfl
   | some ps=>exact absurd (vq.2 ⟨ps,h⟩) h2
def base(l:Str):Option Str:=match parts l with | some ps=>ps.getLast? | none=>none
theorem ar0(g:wV ro)(hnone:base (L s)=none->Q (⟨#[]⟩:ByteArray) 20 I)(hsome:∀ u,base (L s)=some u->Q (S u) 0 I):afK B ro s I Q:=by
 refine amc fun hs=>?_
 unfold afM
 by_cases h1:s=⟨#[47]⟩
 .rw[if_pos h1]
  unfold uC
  rw[if_pos rfl]
  refine hnone ?_
  subst h1;rfl
 .rw[if_neg h1]
  refine ug g ?_
  unfold uC
  by_cases h2:chk (L s)=0
  .rw[if_neg (by simpa using h2)]
   obtain⟨ps,hps⟩:=vq.1 h2
   obtain⟨hl,hg⟩:=wd.1 hps
   have hne:ps≠[]:=fun e=>h1 (pL (by rw[hl,e];try rfl))
   obtain⟨qs,x,rfl⟩:∃ qs x,ps=qs++[x]:=by
    rcases List.eq_nil_or_concat ps with e | ⟨qs,x,e⟩
    .exact absurd e hne
    .exact⟨qs,x,by rw[e,List.concat_eq_append]⟩
   have hx:47∉x:=acQ (hg.ok x (by simp))
   have hsz:s.size=(mk (qs++[x])).length:=by rw[<-xz,hl]
   have h128:=hg.len
   refine ant (by omega) ?_
   rw[hl,hsz,arN hx]
   have hbase:base (L s)=some x:=by unfold base;rw[hps];simp
   have hlen:(mk (qs++[x])).length=(if qs=[]then []else mk qs).length+1+x.length:=by rw[abs];simp;omega
   rw[inc _ (by omega),Int.toNat_natCast]
   refine⟨⟨trivial,⟨by omega,?_⟩⟩,?_⟩
   .show((_:Nat):Int)<=((mk (qs++[x])).length:Int)
    rw[hlen];omega
   have hex:s.extract ((if qs=[]then []else mk qs).length+1) (mk (qs++[x])).length=S x:=by
    conv=>lhs;rw[<-S_L s]
    rw[acO,hl,List.take_of_length_le (Nat.le_refl _),abs]
    congr 1
    rw[show(if qs=[]then []else mk qs)++47::x=((if qs=[]then []else mk qs)++[47])++x by simp]
    rw[List.drop_left' (by simp)]
   rw[hex]
   exact hsome _ hbase
  .rw[if_pos (by simpa using h2)]
   refine hnone ?_
   unfold base
   cases h:parts (L s)with
   | none=>rfl
   | some ps=>exact absurd (vq.2 ⟨ps,h⟩) h2
end Go.Proofs.YtomdigihapdhnaaGreatDoor.Pa
namespace Go.Proofs.YtomdigihapdhnaaGreatDoor.Zt
open Go SL Go.ChangeShapes Go.WideShapes Go.ChangeAt Go.RowKit
variable{W:World}
abbrev ajU:List (String×DataW Unit):=Rows.storeRepliesUptoRow.laid
theorem own:ownKnob prog.godebug=none:=by kernel_rfl
theorem akx:laidOutB prog=true:=by kernel_rfl
theorem aqo{w:World}(h:∀ b o,all W b=some o->w.heap[b]?=some o){n:String}{cs:Array Value}(hv:W.var? prog n=some cs):w.var? prog n=some cs:=by
 unfold World.var? at hv⊢
 obtain⟨g,hg,hx⟩:=Option.bind_eq_some_iff.1 hv
 rw[hg]
 show(match w.heap[g]? with | some (.cells cs _ _)=>some cs | _=>none)=_
 cases hh:W.heap[g]? with
 | none=>rw[hh]at hx;cases hx
 | some o=>rw[h g o hh];rw[hh]at hx;exact hx
theorem at8:prog.globalNamed "internal/strconv.uint64pow10" =some 2:=by kernel_rfl
theorem at9:prog.underlying 464=some (.int .u64):=by kernel_rfl
theorem aua:(prog.globals[2]?).map (·.type)=some 545:=by kernel_rfl
theorem atO(hsh:W.ShapedOpen prog)(hL:laidMetH prog ajU W):Pa.wV (all W):=by
 rw[MakeChecks.laidMetH_plain _ _ _ (by kernel_rfl)]at hL
 obtain⟨ps,⟨g0,t0,cs0,f0,p0,q0,hg0,ht0,hv0,hd0,⟨g1,t1,cs1,f1,p1,q1,hg1,ht1,hv1,hd1,⟨g2,t2,cs2,f2,p2,q2,hg2,ht2,hv2,hd2,_,_⟩,_⟩,_⟩,_,_⟩:=hL
 have htab:Lib.TabIs prog W "internal/strconv.uint64pow10" .u64 Lib.pow10Tab:=by
  obtain rfl:=Option.some.inj (at8.symm.trans hg2)
  obtain rfl:=Option.some.inj (aua.symm.trans ht2)
  unfold Lib.TabIs
  have hd2':DataW.trod _ prog W 0 _ false f2 545 cs2.toList=some (Lib.tabData .u64 Lib.pow10Tab,p2):=hd2
  rw[hv2,<-Lib.cells_of_tab underlying545 at9 (by kernel_rfl) (by kernel_rfl) hd2']
 refine⟨?_,fun w hw=>aqo hw htab⟩
 obtain⟨m,hm⟩:=Tryz.laysM146.s1_3 W hsh
 have hm:W.cell? ⟨1,0,none⟩=some (.int .i64 m):=hm
 rw[cell?_eq]at hm
 cases hh:W.heap[1]? with
 | none=>simp only at hm;rw[hh]at hm;cases hm
 | some o=>simp only at hm;rw[hh]at hm;exact⟨m,o,hh,hm⟩
theorem amf{H:Type}{enc:TypeId×Value->H}{t:TypeId}{v:Value}{d:DataW H}{p:List MemPlace}(h:DataW.Trod enc prog W 0 (fun _=>true) true t v d p):∀ x∈p,x.block<W.heap.size:=by
 obtain⟨m,hm⟩:=h;exact DataW.trod_lt m _ _ _ hm
end Go.Proofs.YtomdigihapdhnaaGreatDoor.Zt
namespace Go.Proofs.YtomdigihapdhnaaGreatDoor.SL
open Go
variable{P:Program}{B:World}{ro I I':AH}{tag tag':Nat->Nat}
theorem ai0{β:Type}{q:Question}{f:Nat->Sem β}{Q:β->AH->Prop}(h0:q.forced=true->awp P ro (f 0) Q I)(h1:q.forced=false->∀ n,awp P ro (f (q.cut n)) Q I):awp P ro (Sem.bind (choose q) f) Q I:=by
 show(if q.forced then awp P ro (f 0) Q I else∀n,awp P ro (f (q.cut n)) Q I)
 split
 .rename_i h;exact h0 h
 .rename_i h;exact h1 (by simpa using h)
theorem alH{t kt et:TypeId}{r M:Nat}{m:KV}{K:Value->AH->Prop}(ht:P.underlying t=some (.map kt et))(hm:zO tag I r M m)(hs:Sep ro I)
  (hK:∀ (es:Array MapEntry) (clock x:Nat),I M=some (.map es clock)->es.toList.map ub=m.map aeB->akr es clock->ro x=none->I x=none->K (.pointer (some ⟨x,0,none⟩)) (upd I x (.mapIter (some M) clock #[] clock))):
  awp P ro (Instr.range t (.map (some M))) K I:=by
 obtain⟨es,clock,hb,he,hbn⟩:=hm.obj
 unfold Instr.range
 simp only[qy]
 rw[qw ht]
 refine⟨.map es clock,by unfold rd;rw[hs M _ hb];exact hb,rfl,?_⟩
 intro x hro hx
 exact hK es clock x hb he hbn hro hx
theorem adc{ty:TypeId}{x M clock:Nat}{seen:Array Nat}{es:Array MapEntry}{K:Value->AH->Prop}(hx:I x=some (.mapIter (some M) clock seen clock))(hm:I M=some (.map es clock))(hs:Sep ro I)(hb:akr es clock)
  (hover:(∀e∈es.toList,seen.contains e.born=true)->K (.tuple #[.bool false]) I)
  (hstep:∀ e∈es.toList,seen.contains e.born=false->K (.tuple #[.bool true,e.key,e.val]) (upd I x (.mapIter (some M) clock (seen.push e.born) clock))):
  awp P ro (Instr.next (.pointer (some ⟨x,0,none⟩)) false ty) K I:=by
 unfold Instr.next
 refine⟨.mapIter (some M) clock seen clock,by unfold rd;rw[hs x _ hx];exact hx,rfl,?_⟩
 refine⟨.map es clock,by unfold rd;rw[hs M _ hm];exact hm,rfl,?_⟩
 have hall:(!seen.isEmpty && !es.isEmpty && es.all fun e=>decide (e.born≥clock))=false:=by
  cases he:es.isEmpty with
  | true=>simp
  | false=>
   have hne:0<es.size:=by
    rcases Nat.eq_zero_or_pos es.size with h | h
    .have:es= #[]:=Array.eq_empty_of_size_eq_zero h
     rw[this]at he;cases he
    .exact h
   have h0:=hb.lt es[0] (by simp)
   have:(es.all fun e=>decide (e.born≥clock))=false:=by
    rw[<-Bool.not_eq_true,Array.all_eq_true]
    intro h
    have:=h 0 hne
    simp only[decide_eq_true_eq]at this
    omega
   rw[this];simp
 show awp P ro (if _ then _ else _) K I
 rw[if_neg (by rw[hall];simp)]
 have hold:((es.filter fun e=> !seen.contains e.born).filter fun e=>decide (e.born<clock))=es.filter fun e=> !seen.contains e.born:=by
  rw[Array.filter_eq_self]
  intro e he
  have:=hb.lt e (by have:=(Array.mem_filter.1 he).1;simpa using this)
  simpa using this
 have hnew:((es.filter fun e=> !seen.contains e.born).filter fun e=>decide (e.born≥clock))= #[]:=by
  rw[Array.filter_eq_empty_iff]
  intro e he
  have:=hb.lt e (by have:=(Array.mem_filter.1 he).1;simpa using this)
  simp;omega
 simp only[hold,hnew,Array.append_empty]
 generalize hleft:(es.filter fun e=> !seen.contains e.born)=left
 have hmem:∀ e,e∈left↔e∈es.toList/\seen.contains e.born=false:=fun e=>by
  rw[<-hleft,Array.mem_filter];simp
 by_cases hemp:left= #[]
 .subst hemp
  have e1:((if(#[]:Array MapEntry).isEmpty=true then(#[none]:Array (Option MapEntry))else #[])++(#[]:Array MapEntry).map some)= #[none]:=by simp
  rw[e1]
  refine ai0 (fun _=>?_) (fun h=>absurd h (by decide))
  show K (Value.tuple #[.bool false]) I
  refine hover fun e he=>?_
  cases h:seen.contains e.born with
  | true=>rfl
  | false=>exact absurd ((hmem e).2 ⟨he,h⟩) (by simp)
 .have hsz:0<left.size:=by
   rcases Nat.eq_zero_or_pos left.size with h | h
   .exact absurd (Array.eq_empty_of_size_eq_zero h) hemp
   .exact h
  have hie:left.isEmpty=false:=by simp[Array.isEmpty];omega
  rw[if_neg (by rw[hie];simp)]
  have hcand:(#[]:Array (Option MapEntry))++left.map some=left.map some:=by simp
  rw[hcand]
  have step:∀ i,i<left.size->awp P ro (match(left.map some)[i]? with
    | some (some e)=>Sem.bind (setObj x (.mapIter (some M) clock (seen.push e.born) clock)) fun _=>Sem.pure (Value.tuple #[.bool true,e.key,e.val])
    | some none=>Sem.pure (Value.tuple #[.bool false])
    | none=>stuck "Next: no such candidate") K I:=fun i hi=>by
   rw[Array.getElem?_map,Array.getElem?_eq_getElem hi]
   simp only[Option.map_some]
   have hin:=(hmem left[i]).1 (Array.getElem_mem hi)
   exact⟨.mapIter (some M) clock seen clock,hx,rfl,hstep left[i] hin.1 hin.2⟩
  refine ai0 (fun _=>step 0 hsz) (fun _ n=>step _ ?_)
  simp only[Question.cut,Array.size_map]
  exact Nat.mod_lt _ hsz
theorem aht{x M clock:Nat}{seen:Array Nat}{es:Array MapEntry}{e:MapEntry}{K:Value->AH->Prop}(hx:I x=some (.mapIter (some M) clock (seen.push e.born) clock))(hm:I M=some (.map es clock))(hs:Sep ro I)(hb:akr es clock)(he:e∈es.toList)
  (hK:K (.tuple #[e.key,e.val]) I):awp P ro (Instr.entry (.pointer (some ⟨x,0,none⟩))) K I:=by
 have hfind:es.find? (·.born == e.born)=some e:=by
  rw[<-Array.find?_toList]
  have hnd:=hb.nd
  have hin:=he
  generalize es.toList=l at hnd hin
  induction l with
  | nil=>cases hin
  | cons y l ih=>
   simp only[List.map_cons,List.nodup_cons]at hnd
   rw[List.find?_cons]
   rcases List.mem_cons.1 hin with h | h
   .rw[h];simp
   .have hne:y.born≠e.born:=fun hh=>hnd.1 (List.mem_map.2 ⟨e,h,hh.symm⟩)
    rw[show(y.born == e.born)=false by simpa using hne]
    exact ih hnd.2 h
 unfold Instr.entry
 refine⟨.mapIter (some M) clock (seen.push e.born) clock,by unfold rd;rw[hs x _ hx];exact hx,rfl,?_⟩
 simp only[wN,Array.back?_push]
 refine⟨.map es clock,by unfold rd;rw[hs M _ hm];exact hm,rfl,?_⟩
 show awp P ro (if _ then _ else _) K I
 rw[if_neg (by simp)]
 show awp P ro (match es.find? (·.born == e.born)with | some e=>_ | none=>_) K I
 rw[hfind]
 exact hK
theorem aof{α:Type}{p q:α->Bool}(hpq:∀ a,q a=true->p a=true):∀ (l:List α),(l.filter q).length<=(l.filter p).length:=by
 intro l
 induction l with
 | nil=>exact Nat.le_refl _
 | cons y l ih=>
  rw[List.filter_cons,List.filter_cons]
  split
  .rename_i h;rw[if_pos (hpq y h)];simp only[List.length_cons];omega
  .split
   .simp only[List.length_cons];omega
   .exact ih
theorem aog{α:Type}{p q:α->Bool}(hpq:∀ a,q a=true->p a=true){e:α}(hp:p e=true)(hq:q e=false):∀ {l:List α},e∈l->(l.filter q).length<(l.filter p).length:=by
 intro l
 induction l with
 | nil=>intro h;cases h
 | cons y l ih=>
  intro h
  rw[List.filter_cons,List.filter_cons]
  rcases List.mem_cons.1 h with h | h
  .rw[<-h,hp,hq]
   have:=aof hpq l
   simp only[if_true,List.length_cons]
   simp;omega
  .have:=ih h
   split
   .rename_i h1;rw[if_pos (hpq y h1)];simp only[List.length_cons];omega
   .split
    .simp only[List.length_cons];omega
    .exact this
def ajV(es:Array MapEntry)(seen:Array Nat):Nat:=(es.toList.filter fun e=> !seen.contains e.born).length
theorem aoh{es:Array MapEntry}{seen:Array Nat}{e:MapEntry}(he:e∈es.toList)(hn:seen.contains e.born=false):ajV es (seen.push e.born)<ajV es seen:=by
 unfold ajV
 refine aog (fun a ha=>?_) (e:=e) (by rw[hn];try rfl) (by rw[Array.contains_push];simp) he
 rw[Array.contains_push]at ha
 cases h:seen.contains a.born with
 | true=>rw[h]at ha;simp at ha
 | false=>rfl
theorem yW{w:Nat}:∀ {l:List (List Value)},(∀x∈l,x.length=w)->l.flatten.length=l.length*w:=by
 intro l
 induction l with
 | nil=>intro _;simp
 | cons x l ih=>intro h;rw[List.flatten_cons,List.length_append,h x (by simp),ih fun y hy=>h y (by simp[hy]),List.length_cons,Nat.add_mul];omega
theorem aji{w:Nat}:∀ {l:List (List Value)},(∀x∈l,x.length=w)->∀ {j:Nat} {x:List Value} {i:Nat},l[j]?=some x->i<w->l.flatten[j*w+i]?=x[i]?:=by
 intro l
 induction l with
 | nil=>intro _ j x i h;cases h
 | cons y l ih=>
  intro h j x i hj hi
  rw[List.flatten_cons]
  have hy:=h y (by simp)
  rcases j with _ | j
  .cases hj
   rw[Nat.zero_mul,Nat.zero_add,List.getElem?_append_left (by omega)]
  .rw[List.getElem?_append_right (by rw[hy,Nat.add_mul];omega),hy,show(j+1)*w+i - w=j*w+i by rw[Nat.add_mul];omega]
   exact ih (fun z hz=>h z (by simp[hz])) (by simpa using hj) hi
theorem aqp{w:Nat}:∀ {l:List (List Value)},(∀x∈l,x.length=w)->∀ {j:Nat} {x:List Value} {i:Nat} (v:Value),l[j]?=some x->i<w->l.flatten.set (j*w+i) v=(l.set j (x.set i v)).flatten:=by
 intro l
 induction l with
 | nil=>intro _ j x i v h;cases h
 | cons y l ih=>
  intro h j x i v hj hi
  have hy:=h y (by simp)
  rcases j with _ | j
  .cases hj
   rw[List.flatten_cons,Nat.zero_mul,Nat.zero_add,List.set_append_left _ _ (by omega)];try rfl
  .rw[List.flatten_cons,List.set_append_right _ _ (by rw[hy,Nat.add_mul];omega),hy,show(j+1)*w+i - w=j*w+i by rw[Nat.add_mul];omega,ih (fun z hz=>h z (by simp[hz])) v (by simpa using hj) hi]
   try rfl
def qq(tag:Nat->Nat)(I:AH)(r:Nat)(e:TypeId)(w:Nat)(s:Sl)(l:List (List Value)):Prop:=
 (s=⟨none,0,0⟩/\l=[])\/∃ (b:Nat) (cs:Array Value),s.a=some ⟨b,0,none⟩/\tag b=r/\I b=some (.cells cs e)/\s.len=l.length/\cs.size=s.cap*w/\s.len<=s.cap/\(∀x∈l,x.length=w)/\∀ (i:Nat) (v:Value),l.flatten[i]?=some v->cs[i]?=some v
theorem qq.nil(r:Nat)(e:TypeId)(w:Nat):qq tag I r e w ⟨none,0,0⟩ []:= .inl ⟨rfl,rfl⟩
theorem qq.len{r:Nat}{e:TypeId}{w:Nat}{s:Sl}{l:List (List Value)}(h:qq tag I r e w s l):s.len=l.length:=by
 rcases h with⟨rfl,rfl⟩ | ⟨b,cs,_,_,_,h,_⟩
 .rfl
 .exact h
theorem qq.cap{r:Nat}{e:TypeId}{w:Nat}{s:Sl}{l:List (List Value)}(h:qq tag I r e w s l):s.len<=s.cap:=by
 rcases h with⟨rfl,rfl⟩ | ⟨b,cs,_,_,_,_,_,h,_⟩
 .exact Nat.le_refl _
 .exact h
theorem qq.wide{r:Nat}{e:TypeId}{w:Nat}{s:Sl}{l:List (List Value)}(h:qq tag I r e w s l):∀ x∈l,x.length=w:=by
 rcases h with⟨rfl,rfl⟩ | ⟨b,cs,_,_,_,_,_,_,h,_⟩
 .intro x hx;cases hx
 .exact h
theorem qq.keep{R:List Nat}{r:Nat}{e:TypeId}{w:Nat}{s:Sl}{l:List (List Value)}(h:qq tag I r e w s l)(k:qe R ro tag I tag' I')(hr:r∉R:=by simp):qq tag' I' r e w s l:=by
 rcases h with h | ⟨b,cs,ha,ht,hs,hx⟩
 .exact .inl h
 .obtain⟨t,e⟩:=k.keep b _ hs (by rw[ht];exact hr)
  exact .inr ⟨b,cs,ha,t.trans ht,e,hx⟩
theorem qq.keepC{c r:Nat}{e:TypeId}{w:Nat}{s:Sl}{l:List (List Value)}(h:qq tag I r e w s l)(k:zF c ro tag I tag' I')(hr:r%64≠c:=by decide):qq tag' I' r e w s l:=by
 obtain⟨R,h1,h2⟩:=k
 exact h.keep h2 fun m=>hr (h1 _ m)
theorem qq.get{r:Nat}{e:TypeId}{w:Nat}{s:Sl}{l:List (List Value)}(h:qq tag I r e w s l)(hs:Sep ro I){j:Nat}{x:List Value}(hj:l[j]?=some x):
  ∃b,s.a=some ⟨b,0,none⟩/\tag b=r/\∀ i v,x[i]?=some v->qa ro I ⟨b,j*w+i,none⟩=some v:=by
 rcases h with⟨_,rfl⟩ | ⟨b,cs,ha,ht,hb,hln,hc,hle,hw,hg⟩
 .cases hj
 .refine⟨b,ha,ht,fun i v hv=>?_⟩
  have hx:x.length=w:=hw x (List.mem_of_getElem? hj)
  have hi:i<w:=by
   rcases Nat.lt_or_ge i w with h | h
   .exact h
   .rw[List.getElem?_eq_none (by omega)]at hv;cases hv
  have:=hg (j*w+i) v (by rw[aji hw hj hi];exact hv)
  unfold qa rd
  simp only[hs b _ hb,hb,vy]
  exact this
theorem qq.st{r:Nat}{e:TypeId}{w:Nat}{s:Sl}{l:List (List Value)}{b j i:Nat}{x:List Value}{v:Value}{K:AH->Prop}(h:qq tag I r e w s l)(hs:Sep ro I)(ha:s.a=some ⟨b,0,none⟩)(hj:l[j]?=some x)(hi:i<w)(hv:qh v=true)
  (hK:∀ I',qe [r] ro tag I tag I'->qq tag I' r e w s (l.set j (x.set i v))->K I'):stN ⟨b,j*w+i,none⟩ K [v] 0 I:=by
 rcases h with⟨_,rfl⟩ | ⟨b',cs,ha',ht,hb,hln,hc,hle,hw,hg⟩
 .cases hj
 .rw[ha]at ha';cases ha'
  have hjl:j<l.length:=by
   rcases Nat.lt_or_ge j l.length with h | h
   .exact h
   .rw[List.getElem?_eq_none h]at hj;cases hj
  have hlt:j*w+i<cs.size:=by
   rw[hc]
   have:(j+1)*w<=s.cap*w:=Nat.mul_le_mul_right _ (by omega)
   rw[Nat.add_mul]at this;omega
  have hfl:=yW hw
  have hfi:j*w+i<l.flatten.length:=by
   rw[hfl]
   have:(j+1)*w<=l.length*w:=Nat.mul_le_mul_right _ (by omega)
   rw[Nat.add_mul]at this;omega
  refine⟨hv,by simp,cs,e,(0,0),by simpa using hb,by simpa using hlt,by simp,?_⟩
  simp only[ajc,stN]
  refine hK _ (kh hs ht hb) (.inr ⟨b,_,ha,ht,qE _ _ _,by simp[hln],by simp[hc],hle,?_,?_⟩)
  .intro y hy
   rcases List.mem_or_eq_of_mem_set hy with h | h
   .exact hw y h
   .rw[h,List.length_set];exact hw x (List.mem_of_getElem? hj)
  .intro k u hk
   rw[<-aqp hw v hj hi]at hk
   by_cases hkj:j*w+i=k
   .subst hkj
    rw[List.getElem?_set_self hfi]at hk
    rw[Array.getElem?_setIfInBounds_self_of_lt hlt];exact hk
   .rw[List.getElem?_set_ne hkj]at hk
    rw[Array.getElem?_setIfInBounds_ne hkj];exact hg k u hk
def jE(ro I:AH)(w:Nat)(s:Sl)(l:List (List Value)):Prop:=s.len=l.length/\(s.a=none->l=[])/\(∀x∈l,x.length=w)/\∀ p,s.a=some p->∀ (i:Nat) (v:Value),l.flatten[i]?=some v->qa ro I (p.add i)=some v
theorem qq.read{r:Nat}{e:TypeId}{w:Nat}{s:Sl}{l:List (List Value)}(h:qq tag I r e w s l)(hs:Sep ro I):jE ro I w s l:=by
 refine⟨h.len,fun hn=>?_,h.wide,fun p hp i v hv=>?_⟩
 .rcases h with⟨_,rfl⟩ | ⟨b,cs,ha,_⟩
  .rfl
  .rw[hn]at ha;cases ha
 .rcases h with⟨_,rfl⟩ | ⟨b,cs,ha,ht,hb,_,_,_,_,hg⟩
  .cases hv
  .rw[hp]at ha;cases ha
   unfold qa rd
   simp only[vn,Nat.zero_add,hs b _ hb,hb,vy]
   exact hg i v hv
theorem jE.flat{w:Nat}{s:Sl}{l:List (List Value)}(h:jE ro I w s l):l.flatten.length=s.len*w:=by rw[yW h.2.2.1,h.1]
theorem jE.keep{w:Nat}{s:Sl}{l:List (List Value)}(h:jE ro (fun _=>none) w s l):jE ro I w s l:=by
 refine⟨h.1,h.2.1,h.2.2.1,fun p hp i v hv=>?_⟩
 have:=h.2.2.2 p hp i v hv
 unfold qa rd at this⊢
 cases e:ro (p.add i).block with
 | some o=>rw[e]at this;exact this
 | none=>rw[e]at this;simp[vy]at this
theorem jE.step{w:Nat}{s:Sl}{l:List (List Value)}(h:jE ro I w s l)(k:qe [] ro tag I tag' I'):jE ro I' w s l:=by
 refine⟨h.1,h.2.1,h.2.2.1,fun p hp i v hv=>?_⟩
 have:=h.2.2.2 p hp i v hv
 unfold qa rd at this⊢
 cases e:ro (p.add i).block with
 | some o=>rw[e]at this;exact this
 | none=>
  rw[e]at this
  simp only at this⊢
  cases e2:I (p.add i).block with
  | none=>rw[e2]at this;simp[vy]at this
  | some o=>rw[(k.keep _ o e2 (by simp)).2];rw[e2]at this;exact this
theorem uh{r:Nat}{e t:TypeId}{w:Nat}{s s2:Sl}{l l2:List (List Value)}{zv:Value}{bytes:Nat}{ty:TypeId}{Q:Value->AH->Prop}(h:qq tag I r e w s l)(hs:Sep ro I)(h2:jE ro I w s2 l2)
  (ht:P.underlying t=some (.slice e)) (hz:qp P e zv w bytes) (hzc:zv.cells.size=w) (hv:∀ x∈l2,∀v∈x,qh v=true) (hb:(l.length+l2.length)*bytes<=140737488355328) (hb0:0<bytes)
  (hK:∀ s' tag' I',(∀R,s.len=s.cap\/r∈R->qe R ro tag I tag' I')->qq tag' I' r e w s' (l++l2)->Q (Sl.v s') I'):
  awp P ro (Builtin.append_ #[t,t] ty #[Sl.v s,Sl.v s2]) Q I:=by
 obtain⟨i,hi,hiz,his,hib⟩:=hz
 have hz:qp P e zv w bytes:=⟨i,hi,hiz,his,hib⟩
 have g0:(#[t,t]:Array TypeId)[0]?=some t:=rfl
 have g1:(#[t,t]:Array TypeId)[1]?=some t:=rfl
 have g2:(#[Value.slice s.a s.len s.cap,Value.slice s2.a s2.len s2.cap]:Array Value)[0]?=some (Value.slice s.a s.len s.cap):=rfl
 have g3:(#[Value.slice s.a s.len s.cap,Value.slice s2.a s2.len s2.cap]:Array Value)[1]?=some (Value.slice s2.a s2.len s2.cap):=rfl
 have hln:=h2.1
 have hfl2:=h2.flat
 have hvf:∀ v∈l2.flatten,qh v=true:=fun v hm=>by
  obtain⟨x,hx,hm⟩:=List.mem_flatten.1 hm
  exact hv x hx v hm
 have hld:∀ {β:Type} (f:Array Value->Sem β) (Q:β->AH->Prop),awp P ro (f l2.flatten.toArray) Q I->awp P ro (Sem.bind (Builtin.firstCells w s2.len (.slice s2.a s2.len s2.cap)) f) Q I:=by
  intro β f Q hf
  cases hsa:s2.a with
  | none=>
   rw[h2.2.1 hsa]at hf
   exact hf
  | some p=>
   rw[show Sem.bind (Builtin.firstCells w s2.len (.slice (some p) s2.len s2.cap)) f=(loadCells p (s2.len*w)) >>= f from rfl,vA,<-hfl2]
   exact jc l2.flatten 0 #[] (zu 0 fun j v hj=>by rw[Nat.zero_add];exact h2.2.2.2 p hsa j v hj) (by simpa using hf)
 have hfs:∀ {β:Type} (f:Array Value->Sem β) (Q:β->AH->Prop),awp P ro (f l.flatten.toArray) Q I->awp P ro (Sem.bind (Builtin.firstCells w s.len (.slice s.a s.len s.cap)) f) Q I:=by
  intro β f Q hf
  have hr:=h.read hs
  cases hsa:s.a with
  | none=>
   rw[hr.2.1 hsa]at hf
   exact hf
  | some p=>
   rw[show Sem.bind (Builtin.firstCells w s.len (.slice (some p) s.len s.cap)) f=(loadCells p (s.len*w)) >>= f from rfl,vA,<-hr.flat]
   exact jc l.flatten 0 #[] (zu 0 fun j v hj=>by rw[Nat.zero_add];exact hr.2.2.2 p hsa j v hj) (by simpa using hf)
 have hwide:∀ x∈l++l2,x.length=w:=fun x hx=>by
  rcases List.mem_append.1 hx with h' | h'
  .exact h.wide x h'
  .exact h2.2.2.1 x h'
 have hfl:=yW h.wide
 unfold Builtin.append_
 simp only[Sl.v,qy,qV,g0,g1,g2,g3]
 rw[qw ht]
 simp only[]
 rw[adu hz]
 rw[qw ht]
 simp only[wN,Builtin.lenOf,qy,qV,Bool.false_eq_true,if_false,Bool.not_false,if_true,false_or]
 split
 .rename_i hroom
  refine hld _ _ ?_
  rcases h with⟨rfl,rfl⟩ | ⟨b,cs,ha,htg,hbk,hln1,hcp,hle,hwl,hg⟩
  .have h0:l2=[]:=List.eq_nil_of_length_eq_zero (by simp at hroom;omega)
   subst h0
   have hs2:s2.len=0:=hln
   show Q (.slice none (0+s2.len) 0) I
   rw[hs2]
   exact hK ⟨none,0,0⟩ tag I (fun _ _=>qe.refl hs) (.inl ⟨rfl,rfl⟩)
  .have h':qq tag I r e w s l:= .inr ⟨b,cs,ha,htg,hbk,hln1,hcp,hle,hwl,hg⟩
   by_cases h0:l2=[]
   .subst h0
    have hs2:s2.len=0:=hln
    simp only[ha]
    show Q (Value.slice (some ⟨b,0,none⟩) (s.len+s2.len) s.cap) I
    rw[hs2,Nat.add_zero]
    have:=hK s tag I (fun _ _=>qe.refl hs) (by rw[List.append_nil];exact h')
    unfold Sl.v at this
    rw[ha]at this;exact this
   have hpos:=List.length_pos_iff.2 h0
   simp only[ha]
   show awp P ro (storeCells (Addr.add ⟨b,0,none⟩ (s.len*w)) l2.flatten >>= fun _=>Sem.pure (Value.slice (some ⟨b,0,none⟩) (s.len+s2.len) s.cap)) Q I
   rw[vA,vn,Nat.zero_add]
   have hcm:(s.len+s2.len)*w<=s.cap*w:=Nat.mul_le_mul_right _ hroom
   rw[Nat.add_mul]at hcm
   refine jt l2.flatten 0 I (aeP l2.flatten cs 0 I hbk (by rw[hcp,hfl2];omega) hvf fun cs' c1 c2 c3=>?_)
   show Q (Value.slice (some ⟨b,0,none⟩) (s.len+s2.len) s.cap) _
   refine hK ⟨some ⟨b,0,none⟩,s.len+s2.len,s.cap⟩ tag _ (fun R hR=>(kh hs htg hbk).mono fun x hx=>by rw[List.mem_singleton]at hx;rw[hx];exact hR.resolve_left (by omega)) (.inr ⟨b,cs',rfl,htg,qE _ _ _,by simp[hln1,hln],by rw[c1];exact hcp,hroom,hwide,fun i v hi=>?_⟩)
   rw[List.flatten_append]at hi
   rcases Nat.lt_or_ge i l.flatten.length with hh | hh
   .rw[List.getElem?_append_left hh]at hi
    rw[c2 i (by rw[hfl,<-hln1]at hh;omega)];exact hg i v hi
   .rw[List.getElem?_append_right hh]at hi
    have:=c3 (i - l.flatten.length) v hi
    rw[<-this]
    congr 1;rw[hfl,<-hln1]at hh ⊢;omega
 .rename_i hroom
  rw[vF hi]
  rw[if_neg (by rw[hib];omega)]
  rw[vF hi]
  have hl:=h.len
  rw[if_neg (by rw[hib];have:=growslice_fits (need:=s.len+s2.len) (old:=s.cap) (bytes:=bytes) (by omega) (by rw[hl,hln];exact hb);omega)]
  refine agD rfl (fun n=>?_)
  rw[vF hi]
  refine afG ?_
  have hcut:s.len+s2.len<=(Question.appendCap (s.len+s2.len) s.cap e).cut n:=by simp only[Question.cut];omega
  generalize (Question.appendCap (s.len+s2.len) s.cap e).cut n=N at hcut
  refine hfs _ _ ?_
  refine hld _ _ ?_
  rw[aaW hz]
  show∀b,ro b=none->I b=none->Q (Value.slice (some ⟨b,0,none⟩) (s.len+s2.len) N) (upd I b _)
  intro b hro hb
  refine hK ⟨some ⟨b,0,none⟩,s.len+s2.len,N⟩ (setTag tag b r) _ (fun _ _=>qe.fresh hs hro hb) (.inr ⟨b,_,rfl,by simp[setTag],qE _ _ _,by simp[hl,hln],?_,hcut,hwide,fun i v hi=>?_⟩)
  .have e1:(Builtin.zeroCells zv.cells (N - (s.len+s2.len))).size=(N - (s.len+s2.len))*w:=by simp[Builtin.zeroCells,hzc]
   rw[Array.size_append,Array.size_append,e1,List.size_toArray,List.size_toArray,hfl2,hfl,<-hl,<-Nat.add_mul,<-Nat.add_mul]
   congr 1;simp only;omega
  .rw[List.flatten_append]at hi
   have hlt:i<(l.flatten++l2.flatten).length:=by
    rcases Nat.lt_or_ge i (l.flatten++l2.flatten).length with h | h
    .exact h
    .rw[List.getElem?_eq_none h]at hi;cases hi
   rw[Array.getElem?_append_left (by simpa using hlt)]
   simpa using hi
theorem ao1(r:Nat){e:TypeId}{w:Nat}{l:List (List Value)}{K:Nat->AH->Prop}(hs:Sep ro I)(hw:∀ x∈l,x.length=w)
  (hK:∀ b tag' I',(∀R,qe R ro tag I tag' I')->qq tag' I' r e w ⟨some ⟨b,0,none⟩,l.length,l.length⟩ l->K b I'):nw ro I (.cells l.flatten.toArray e) K:=by
 intro b hro hb
 exact hK b (setTag tag b r) _ (fun R=>qe.fresh hs hro hb) (.inr ⟨b,_,rfl,by simp[setTag],qE _ _ _,rfl,by simp[yW hw],Nat.le_refl _,hw,fun i v hi=>by simpa using hi⟩)
theorem anv{t e ty:TypeId}{s:Sl}{Q:Value->AH->Prop}(ht:P.underlying t=some (.slice e))(h:Q (.int .i64 (s.cap:Int)) I):awp P ro (Builtin.cap_ #[t] ty #[Sl.v s]) Q I:=by
 have g0:(#[t]:Array TypeId)[0]?=some t:=rfl
 have g1:(#[Value.slice s.a s.len s.cap]:Array Value)[0]?=some (Value.slice s.a s.len s.cap):=rfl
 unfold Builtin.cap_
 simp only[Sl.v,qy,qV,g0,g1]
 rw[qw ht]
 exact h
structure Src(P:Program)(ro I:AH)(x:Value)(l:List Value):Prop where
 len:∀ {β:Type} (f:Nat->Sem β) (Q:β->AH->Prop),awp P ro (f l.length) Q I->awp P ro (Sem.bind (Builtin.lenOf x) f) Q I
 cells:∀ {β:Type} (f:Array Value->Sem β) (Q:β->AH->Prop),awp P ro (f l.toArray) Q I->awp P ro (Sem.bind (Builtin.firstCells 1 l.length x) f) Q I
theorem zw.src{s:Sl}{l:List Value}(h:zw ro I s l):Src P ro I (Sl.v s) l:=by
 refine⟨fun f Q hf=>?_,fun f Q hf=>?_⟩
 .rw[<-h.1]at hf;exact hf
 .unfold Sl.v
  cases hsa:s.a with
  | none=>
   rw[h.2.1 hsa]at hf⊢
   exact hf
  | some p=>
   rw[show Sem.bind (Builtin.firstCells 1 l.length (.slice (some p) s.len s.cap)) f=(loadCells p (l.length*1)) >>= f from rfl,vA,Nat.mul_one]
   exact jc l 0 #[] (zu 0 fun j v hj=>by rw[Nat.zero_add];exact h.2.2 p hsa j v hj) (by simpa using hf)
theorem anw(b:ByteArray):Src P ro I (.string b) ((L b).map fun c=> .int .u8 c.toNat):=by
 refine⟨fun f Q hf=>?_,fun f Q hf=>?_⟩
 .rw[List.length_map,xz]at hf;exact hf
 .rw[List.length_map,xz]
  show awp P ro (f ((b.extract 0 b.size).data.map fun c=> .int .u8 c.toNat)) Q I
  rw[show b.extract 0 b.size=b from by rw[att,List.take_of_length_le (by rw[xz];exact Nat.le_refl _)];exact S_L b]
  have e:((L b).map fun c=>Value.int .u8 c.toNat).toArray=b.data.map fun c=> .int .u8 c.toNat:=by unfold L;rw[<-Array.toList_map]
  rw[<-e];exact hf
theorem amg{r e t t2 ty:TypeId}{s:Sl}{l l2:List Value}{m bytes:Nat}{x zv:Value}{Q:Value->AH->Prop}(h:Row tag I r e s l)(hs:Sep ro I)(ht:P.underlying t=some (.slice e))(hz:qp P e zv 1 bytes)
  (hx:Src P ro I x l2) (hm:m+l2.length=l.length) (hv:∀ v∈l2,qh v=true) (hQ:∀ I',qe [r] ro tag I tag I'->Row tag I' r e s (l.take m++l2)->Q (.int .i64 (l2.length:Int)) I'):
  awp P ro (Builtin.copy_ #[t,t2] ty #[Sl.v (⟨wu s.a m s.cap 1,s.len - m,s.cap - m⟩:Sl),x]) Q I:=by
 have g0:(#[t,t2]:Array TypeId)[0]?=some t:=rfl
 have g1:(#[Value.slice (wu s.a m s.cap 1) (s.len - m) (s.cap - m),x]:Array Value)[0]?=some (Value.slice (wu s.a m s.cap 1) (s.len - m) (s.cap - m)):=rfl
 have g2:(#[Value.slice (wu s.a m s.cap 1) (s.len - m) (s.cap - m),x]:Array Value)[1]?=some x:=rfl
 have hl:=h.len
 unfold Builtin.copy_
 simp only[Sl.v,qy,qV,g0,g1,g2]
 rw[qw ht]
 simp only[]
 refine hx.len _ _ ?_
 rw[adu hz]
 rw[show Nat.min l2.length (s.len - m)=l2.length from Nat.min_eq_left (by omega)]
 refine hx.cells _ _ ?_
 have done:l2=[]->Q (.int .i64 (l2.length:Int)) I:=fun e0=>hQ I (qe.refl hs) (by
  rw[e0,List.append_nil,List.take_of_length_le (by rw[e0]at hm;simp at hm;omega)];exact h)
 rcases h with⟨rfl,rfl⟩ | ⟨b,cs,ha,htg,hbk,hln,hcp,hle,hg⟩
 .have h0:l2=[]:=List.eq_nil_of_length_eq_zero (by simp only[List.length_nil]at hm;omega)
  rw[show wu none m 0 1=none from by unfold wu;split<;>rfl]
  exact done h0
 .by_cases h0:l2=[]
  .unfold wu
   have:=done h0
   subst h0
   split
   .exact this
   .exact this
  .have hpos:=List.length_pos_iff.2 h0
   unfold wu
   rw[if_neg (by omega),ha]
   simp only[Option.map_some,Nat.mul_one,vn,Nat.zero_add]
   show awp P ro (storeCells ⟨b,m,none⟩ l2 >>= fun _=>Sem.pure (goInt l2.length)) Q I
   rw[vA]
   refine jt l2 0 I (aeP l2 cs 0 I hbk (by omega) hv fun cs' c1 c2 c3=>?_)
   refine hQ _ (kh hs htg hbk) (.inr ⟨b,cs',ha,htg,qE _ _ _,by simp;omega,by rw[c1];exact hcp,hle,fun i hi=>?_⟩)
   simp at hi
   rcases Nat.lt_or_ge i m with hh | hh
   .rw[c2 i (by omega),List.getElem?_append_left (by simp;omega),List.getElem?_take,if_pos hh];exact hg i (by omega)
   .have e1:(l.take m).length=m:=by simp;omega
    rw[List.getElem?_append_right (by omega),e1]
    have:=c3 (i - m) _ (List.getElem?_eq_getElem (by omega))
    rw[List.getElem?_eq_getElem (by omega),<-this]
    congr 1;omega
theorem Row.more{r:Nat}{e:TypeId}{s:Sl}{l:List Value}(h:Row tag I r e s l){n:Nat}(hn:l.length+n<=s.cap):∃ xs:List Value,xs.length=n/\Row tag I r e ⟨s.a,l.length+n,s.cap⟩ (l++xs):=by
 rcases h with⟨rfl,rfl⟩ | ⟨b,cs,ha,htg,hbk,hln,hcp,hle,hg⟩
 .have:n=0:=by simpa using hn
  subst this
  exact⟨[],rfl,.inl ⟨rfl,rfl⟩⟩
 .refine⟨(cs.toList.drop l.length).take n,by simp;omega,.inr ⟨b,cs,ha,htg,hbk,by simp;omega,hcp,hn,fun i hi=>?_⟩⟩
  rcases Nat.lt_or_ge i l.length with h1 | h1
  .rw[List.getElem?_append_left h1];exact hg i h1
  .simp at hi
   rw[List.getElem?_append_right h1,List.getElem?_take,if_pos (by omega),List.getElem?_drop]
   simp only[Array.getElem?_toList]
   congr 1;omega
theorem Row.capAt{r:Nat}{e:TypeId}{s:Sl}{l:List Value}(h:Row tag I r e s l):l.length<=s.cap:=by
 rcases h with⟨rfl,rfl⟩ | ⟨b,cs,ha,htg,hbk,hln,hcp,hle,hg⟩
 .simp
 .omega
theorem pR(a:Option Addr)(c s:Nat):wu a 0 c s=a:=by
 unfold wu;split
 .rfl
 .cases a<;>simp[Nat.zero_mul,ajc]
def StepS(C:List Nat)(ro:AH)(tag:Nat->Nat)(I:AH)(tag':Nat->Nat)(I':AH):Prop:= ∃R:List Nat,(∀x∈R,x%64∈C)/\qe R ro tag I tag' I'
theorem qe.s{C R:List Nat}(h:qe R ro tag I tag' I')(hR:∀ x∈R,x%64∈C):StepS C ro tag I tag' I':=⟨R,hR,h⟩
theorem zF.s{C:List Nat}{c:Nat}(h:zF c ro tag I tag' I')(hc:c∈C):StepS C ro tag I tag' I':=by
 obtain⟨R,h1,h2⟩:=h
 exact⟨R,fun x hx=>by rw[h1 x hx];exact hc,h2⟩
theorem StepS.sep{C:List Nat}(h:StepS C ro tag I tag' I'):Sep ro I':=by obtain⟨_,_,h⟩:=h;exact h.sep
theorem StepS.refl{C:List Nat}(h:Sep ro I):StepS C ro tag I tag I:=⟨[],by simp,qe.refl h⟩
theorem StepS.trans{C:List Nat}{tag'':Nat->Nat}{I'':AH}(h:StepS C ro tag I tag' I')(k:StepS C ro tag' I' tag'' I''):StepS C ro tag I tag'' I'':=by
 obtain⟨R,h1,h2⟩:=h
 obtain⟨R',k1,k2⟩:=k
 refine⟨R++R',fun x hx=>?_,(h2.mono fun r hr=>by simp[hr]).trans (k2.mono fun r hr=>by simp[hr])⟩
 rcases List.mem_append.1 hx with h | h
 .exact h1 x h
 .exact k1 x h
theorem StepS.mono{C D:List Nat}(h:StepS C ro tag I tag' I')(hd:∀ c∈C,c∈D):StepS D ro tag I tag' I':=by
 obtain⟨R,h1,h2⟩:=h
 exact⟨R,fun x hx=>hd _ (h1 x hx),h2⟩
theorem Row.keepS{C:List Nat}{r:Nat}{e:TypeId}{s:Sl}{l:List Value}(h:Row tag I r e s l)(k:StepS C ro tag I tag' I')(hr:r%64∉C:=by decide):Row tag' I' r e s l:=by
 obtain⟨R,h1,h2⟩:=k
 exact h.keep h2 fun m=>hr (h1 _ m)
theorem StepS.back{C:List Nat}{b:Nat}{τ:AH}(h:StepS C (join ro (one I b)) tag (del I b) tag' τ)(hs:Sep ro I)(hd:qP (one I b) τ)(hb:∃ o,I b=some o):StepS C ro tag I (setTag tag' b (tag b)) (join (one I b) τ):=by
 obtain⟨R,h1,h2⟩:=h
 exact⟨R,h1,h2.back hs hd hb⟩
def inR(tag:Nat->Nat)(L:List Nat)(I:AH):AH:=fun c=>if tag c∈L then I c else none
def zJ(tag:Nat->Nat)(L:List Nat)(I:AH):AH:=fun c=>if tag c∈L then none else I c
def tagB(tag tag1:Nat->Nat)(L:List Nat)(I:AH):Nat->Nat:=fun c=>if(inR tag L I c).isSome then tag c else tag1 c
variable{L:List Nat}
theorem jF(tag:Nat->Nat)(L:List Nat){K:AH->AH->Prop}(h:K (inR tag L I) (zJ tag L I)):yP I K:=by
 refine⟨_,_,fun c o hc=>?_,?_,h⟩
 .unfold inR at hc;unfold zJ
  split at hc
  .rename_i e;rw[if_pos e]
  .cases hc
 .funext c;unfold join inR zJ
  by_cases e:tag c∈L
  .simp only[e,if_true];cases I c<;>rfl
  .simp[e]
theorem aqq(b:Nat)(hs:Sep ro I):rd (join ro (inR tag L I)) (zJ tag L I) b=rd ro I b:=by
 unfold rd join inR zJ
 cases h:ro b with
 | some o=>rfl
 | none=>
  simp only
  by_cases e:tag b∈L
  .simp only[e,if_true];cases I b<;>rfl
  .simp[e]
theorem Sep.lentR(hs:Sep ro I):Sep (join ro (inR tag L I)) (zJ tag L I):=by
 intro c o hc
 unfold zJ at hc
 split at hc
 .cases hc
 .rename_i e
  unfold join inR
  rw[hs c o hc];simp[e]
theorem Row.outR{r:Nat}{e:TypeId}{s:Sl}{l:List Value}(h:Row tag I r e s l)(hr:r∉L):Row tag (SL.zJ tag L I) r e s l:=by
 rcases h with h | ⟨c,cs,ha,ht,hs,hx⟩
 .exact .inl h
 .refine .inr ⟨c,cs,ha,ht,?_,hx⟩
  unfold SL.zJ;rw[if_neg (by rw[ht];exact hr)];exact hs
theorem zO.outR{r b:Nat}{m:KV}(h:zO tag I r b m)(hr:r∉L):zO tag (SL.zJ tag L I) r b m:=by
 obtain⟨es,clock,hb,x⟩:=h.obj
 exact⟨h.tg,es,clock,by unfold SL.zJ;rw[if_neg (by rw[h.tg];exact hr)];exact hb,x⟩
theorem ai1{a:Addr}(hs:Sep ro I):qa (join ro (inR tag L I)) (zJ tag L I) a=qa ro I a:=by
 unfold qa;rw[aqq _ hs]
theorem Row.lendR{r:Nat}{e:TypeId}{s:Sl}{l:List Value}{p:Addr}{τ:AH}{i:Nat}{v:Value}(h:Row tag I r e s l)(hs:Sep ro I)(hr:r∈L)(hp:s.a=some p)(hv:l[i]?=some v):qa (join ro (inR tag L I)) τ (p.add i)=some v:=by
 rcases h with⟨e,_⟩ | ⟨c,cs,ha,ht,hb,hln,hc,hle,hg⟩
 .rw[e]at hp;cases hp
 .rw[ha]at hp;cases hp
  have hi:i<l.length:=by
   rcases Nat.lt_or_ge i l.length with h | h
   .exact h
   .rw[List.getElem?_eq_none h]at hv;cases hv
  rw[vn,Nat.zero_add]
  have:join ro (inR tag L I) c=some (.cells cs e):=by unfold join inR;rw[hs c _ hb];simp[ht,hr,hb]
  unfold qa rd
  simp only[this,vy]
  rw[<-hv,<-hg i hi];try rfl
theorem zw.lentR{s:Sl}{l:List Value}(h:zw ro I s l)(hs:Sep ro I):zw (join ro (inR tag L I)) (SL.zJ tag L I) s l:=
 ⟨h.1,h.2.1,fun p hp i v hv=>by rw[ai1 hs];exact h.2.2 p hp i v hv⟩
theorem amh{c:Nat}{o:Obj}(h:inR tag L I c=some o):tag c∈L/\I c=some o:=by
 unfold inR at h
 split at h
 .exact⟨by assumption,h⟩
 .cases h
theorem adw{tag1:Nat->Nat}{c:Nat}(h:inR tag L I c=none):tagB tag tag1 L I c=tag1 c:=by unfold tagB;rw[h];try rfl
theorem aky{tag1:Nat->Nat}{c:Nat}{o:Obj}(h:inR tag L I c=some o):tagB tag tag1 L I c=tag c:=by unfold tagB;rw[h];try rfl
theorem Row.backR{tag1:Nat->Nat}{τ:AH}{r:Nat}{e:TypeId}{s:Sl}{l:List Value}(h:Row tag1 τ r e s l)(hd:qP (inR tag L I) τ):Row (tagB tag tag1 L I) (join (inR tag L I) τ) r e s l:=by
 rcases h with h | ⟨c,cs,ha,ht,hs,hx⟩
 .exact .inl h
 .have hn:inR tag L I c=none:=by
   cases e:inR tag L I c with
   | none=>rfl
   | some o=>have:=hd c o e;rw[hs]at this;cases this
  exact .inr ⟨c,cs,ha,by rw[adw hn];exact ht,by unfold join;rw[hn];exact hs,hx⟩
theorem zO.backR{tag1:Nat->Nat}{τ:AH}{r b:Nat}{m:KV}(h:zO tag1 τ r b m)(hd:qP (inR tag L I) τ):zO (tagB tag tag1 L I) (join (inR tag L I) τ) r b m:=by
 obtain⟨es,clock,hb,x⟩:=h.obj
 have hn:inR tag L I b=none:=by
  cases e:inR tag L I b with
  | none=>rfl
  | some o=>have:=hd b o e;rw[hb]at this;cases this
 exact⟨by rw[adw hn];exact h.tg,es,clock,by unfold join;rw[hn];exact hb,x⟩
theorem qe.backR{tag1:Nat->Nat}{R:List Nat}{τ:AH}(h:qe R (join ro (inR tag L I)) tag (zJ tag L I) tag1 τ)(hs:Sep ro I)(hd:qP (inR tag L I) τ):qe R ro tag I (tagB tag tag1 L I) (join (inR tag L I) τ):=by
 have split':∀ c o,I c=some o->inR tag L I c=some o\/(inR tag L I c=none/\zJ tag L I c=some o):=fun c o hc=>by
  unfold inR zJ
  by_cases e:tag c∈L
  .left;rw[if_pos e];exact hc
  .right;rw[if_neg e,if_neg e];exact⟨rfl,hc⟩
 refine⟨fun c o hc hn=>?_,fun c o hc=>?_,fun c o hc=>?_⟩
 .rcases split' c o hc with h1 | ⟨h1,h2⟩
  .exact⟨aky h1,by unfold join;rw[h1]⟩
  .obtain⟨t1,t2⟩:=h.keep c o h2 hn
   exact⟨by rw[adw h1];exact t1,by unfold join;rw[h1];exact t2⟩
 .rcases split' c o hc with h1 | ⟨h1,h2⟩
  .exact⟨aky h1,o,by unfold join;rw[h1]⟩
  .obtain⟨t1,o',t2⟩:=h.old c o h2
   exact⟨by rw[adw h1];exact t1,o',by unfold join;rw[h1];exact t2⟩
 .rcases acM hc with h1 | ⟨h1,h2⟩
  .exact hs c o (amh h1).2
  .exact(uN (h.sep c o h2)).1
theorem StepS.backR{tag1:Nat->Nat}{C:List Nat}{τ:AH}(h:StepS C (join ro (inR tag L I)) tag (zJ tag L I) tag1 τ)(hs:Sep ro I)(hd:qP (inR tag L I) τ):StepS C ro tag I (tagB tag tag1 L I) (join (inR tag L I) τ):=by
 obtain⟨R,h1,h2⟩:=h
 exact⟨R,h1,h2.backR hs hd⟩