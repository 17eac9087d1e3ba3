/- RfA, RfB, RfC, RfD, RfE, GR8, MpA -/
import Derived.CallsIn
import Derived.RangeFuncWrites
import Derived.RangeFuncLeaves
import Derived.RangeFuncBox
import Derived.Shelf.Abstract
import Derived.WalkKit
import Derived.OwnWalkIn
import Derived.TacticsInMore
import Derived.LoopNIn
import Derived.LoopIn
import Derived.Test.YthfpmipeejjogaaGreatDoorProg
import Derived.Test.YthfpmipeejjogaaGreatDoorXM
set_option maxRecDepth 100000
set_option maxHeartbeats 4000000
set_option linter.unusedVariables false
set_option linter.unusedSimpArgs false
open Go.IntKind (i64)
open Go.Proofs.Tryz
namespace Go.Proofs.YthfpmipeejjogaaGreatDoor
namespace SL
open Go
structure Open (F : Fence) : Prop where
 fn : ∀ f, F.fn f
 depth : F.depth = none
 calls : ∀ {P : Program} {n : Nat} {f : FuncId} {args : Array Value} {w : World} {R : Ending → World → Prop}, Calls P f args w R → CallsIn F n P f args w R
theorem Open.wide : Open Fence.wide := ⟨fun _ => trivial, rfl, fun h => callsIn_wide.2 h⟩
theorem Open.round (l : Nat) : Open (Fence.wide.inRound l) := ⟨fun _ => trivial, rfl, fun h => (callsIn_wide.2 h : CallsIn Fence.wide _ _ _ _ _ _)⟩
structure FitsD (N : Nat) (ds : List Deferred) (fr : Fr) (a : Act) : Prop where
 size : a.tmps.size = N
 defers : a.defers = ds
 has : ∀ i v, look fr i = some v → a.tmps[i]? = some v
theorem Fits.d {N : Nat} {fr : Fr} {a : Act} (h : Fits N fr a) : FitsD N [] fr a := ⟨h.size, h.defers, h.has⟩
theorem FitsD.agrees {N : Nat} {ds : List Deferred} {fr : Fr} {a : Act} (h : FitsD N ds fr a) : Agrees a.eval fr := by
 have h' : Fits N fr { a with defers := [] } := ⟨h.size, rfl, h.has⟩
 intro x v hx
 exact h'.agrees x v hx
theorem FitsD.put {N : Nat} {ds : List Deferred} {fr : Fr} {a : Act} (h : FitsD N ds fr a) {d : Option Tmp} (hd : dstOk N d = true) (v : Value) : FitsD N ds (putF d v fr) (a.put d v) := by
 have h' : Fits N fr { a with defers := [] } := ⟨h.size, rfl, h.has⟩
 have k := h'.put hd v
 cases d with
 | none => exact h
 | some d => exact ⟨k.size, h.defers, k.has⟩
theorem FitsD.weaken {N : Nat} {ds : List Deferred} {fr fr' : Fr} {a : Act} (h : FitsD N ds fr' a) (hl : FrLe fr fr') : FitsD N ds fr a := ⟨h.size, h.defers, fun i v e => h.has i v (hl i v e)⟩
def liftD (B : World) (ro : AH) (N : Nat) (ds : List Deferred) (φ : AH) (Q : Exit → Fr → AH → Prop) (e : Exit) (a : Act) (w : World) : Prop := ∃ fr σ, Q e fr σ ∧ Own B ro φ σ w ∧ FitsD N ds fr a
section
variable {F : Fence} {n : Nat} {P : Program} {B : World} {ro : AH} {N : Nat} {ds : List Deferred}
def noDefer (o : Oper) : Bool := match o.op with
 | .defer _ => false
 | _ => true
theorem AExec.soundIn {o : Oper} {K : Fr → AH → Prop} {fr : Fr} {σ φ : AH} {a : Act} {w : World} {next : Act → World → Prop} {Q : Exit → Act → World → Prop}
  (hF : Open F) (hnd : noDefer o = true) (h : AExec P B ro o K fr σ) (hd : dstOk N o.dst = true) (ho : Own B ro φ σ w) (hf : FitsD N ds fr a)
  (hk : ∀ fr σ a w, K fr σ → Own B ro φ σ w → FitsD N ds fr a → next a w) : o.wpIn F n P a w next Q := by
 obtain ⟨x, w', σ', hr, hq, ho'⟩ := awp_sound _ (h _ hf.agrees) ho
 refine ⟨fun f _ => hF.fn f, ?_⟩
 rw [Oper.semAt_eq _ _ _ (fun c e => by unfold noDefer at hnd; rw [e] at hnd; cases hnd), hr]
 cases x with
 | value v => exact hk _ _ _ _ hq ho' (hf.put hd v)
 | skip => exact hk _ _ _ _ hq ho' (hf.put hd undef)
 | enter f args =>
  refine ⟨fun e => (by rw [hF.depth] at e; cases e), hF.calls ?_⟩
  refine (hq φ w' ho').mono ?_
  rintro e w2 ⟨v, σ2, rfl, hq2, ho2⟩
  exact hk _ _ _ _ hq2 ho2 (hf.put hd v)
 | _ => exact hq.elim
theorem yielded_eqD {fr : Fr} {a : Act} (hf : FitsD N ds fr a) {ops : Array Oper} {j t : Nat} {v : Value} (ht : (ops[j]?).bind (·.dst) = some t) (hl : look fr t = some v) :
  yielded ops a.tmps j = match v with | .bool b => some b | _ => none :=
 yielded_eq (N := N) (a := { a with defers := [] }) ⟨hf.size, rfl, hf.has⟩ ht hl
theorem AOps.soundIn (hF : Open F) {ops : Array Oper} {Q : Exit → Fr → AH → Prop} {φ : AH} (hnd : ∀ (i : Nat) (o : Oper), ops[i]? = some o → noDefer o = true) (l : List Nat) : ∀ {fr : Fr} {σ : AH} {a : Act} {w : World},
  AOps P B ro N ops (Q .normal) l fr σ → Own B ro φ σ w → FitsD N ds fr a → wpOpsIn F n P ops (liftD B ro N ds φ Q) l a w := by
 induction l with
 | nil => intro fr σ a w h ho hf; exact ⟨fr, σ, h, ho, hf⟩
 | cons i rest ih =>
  intro fr σ a w h ho hf
  simp only [AOps] at h
  simp only [wpOpsIn]
  cases hi : ops[i]? with
  | none => rw [hi] at h; exact ih h ho hf
  | some o =>
   rw [hi] at h
   obtain ⟨hd, h⟩ := h
   dsimp only
   cases hg : o.guard with
   | none =>
    rw [hg] at h
    have hw : Region.wanted o (yielded ops a.tmps) = true := by simp [Region.wanted, hg]
    rw [if_pos hw]
    exact AExec.soundIn hF (hnd i o hi) h hd ho hf fun fr σ a w hk ho hf => ih hk ho hf
   | some g =>
    obtain ⟨j, want⟩ := g
    rw [hg] at h
    obtain ⟨t, v, ht, hl, h⟩ := h
    have hy := yielded_eqD hf ht hl
    rcases h with ⟨rfl, h⟩ | ⟨hv, h⟩
    ·have hw : Region.wanted o (yielded ops a.tmps) = true := by simp [Region.wanted, hg, hy]
     rw [if_pos hw]
     exact AExec.soundIn hF (hnd i o hi) h hd ho hf fun fr σ a w hk ho hf => ih hk ho hf
    ·have hw : ¬ Region.wanted o (yielded ops a.tmps) = true := by
      simp only [Region.wanted, hg, hy]
      cases v <;> simp
      rename_i b; intro e; subst e; exact hv rfl
     rw [if_neg hw]
     exact ⟨fun f _ => hF.fn f, ih h ho (hf.put hd undef)⟩
end
def AWF (F : Fence) (n : Nat) (ds : List Deferred) (P : Program) (B : World) (ro : AH) (N : Nat) (c : Code) (Q : Exit → Fr → AH → Prop) (fr : Fr) (σ : AH) : Prop :=
 ∀ φ w a, Own B ro φ σ w → FitsD N ds fr a → c.wpIn F n P (liftD B ro N ds φ Q) a w
section
variable {F : Fence} {n : Nat} {ds : List Deferred} {P : Program} {B : World} {ro : AH} {N : Nat} {Q : Exit → Fr → AH → Prop} {fr : Fr} {σ : AH}
theorem AWF.skip (h : Q .normal fr σ) : AWF F n ds P B ro N .skip Q fr σ := fun _ _ _ ho hf => wpIn_skip ⟨fr, σ, h, ho, hf⟩
theorem AWF.ret (h : Q .ret fr σ) : AWF F n ds P B ro N .ret Q fr σ := fun _ _ _ ho hf => wpIn_ret ⟨fr, σ, h, ho, hf⟩
theorem AWF.seq {x y : Code} (h : AWF F n ds P B ro N x (thenQ (AWF F n ds P B ro N y Q) Q) fr σ) : AWF F n ds P B ro N (.seq x y) Q fr σ := by
 intro φ w a ho hf
 refine wpIn_seq (wpIn_mono (h φ w a ho hf) ?_)
 rintro e a' w' ⟨fr', σ', hq, ho', hf'⟩
 cases e with
 | normal => exact hq φ w' a' ho' hf'
 | _ => exact ⟨fr', σ', hq, ho', hf'⟩
theorem AWF.cond {c : Operand} {x y : Code} {b : Bool} (hc : evalF fr c = some (.bool b)) (ht : b = true → AWF F n ds P B ro N x Q fr σ) (hn : b = false → AWF F n ds P B ro N y Q fr σ) : AWF F n ds P B ro N (.cond c x y) Q fr σ :=
 fun φ w a ho hf => wpIn_cond_split (hf.agrees _ _ hc) (fun e => ht e φ w a ho hf) (fun e => hn e φ w a ho hf)
theorem AWF.block {id : Nat} {c : Code} (h : AWF F n ds P B ro N c (blockQ id Q) fr σ) : AWF F n ds P B ro N (.block id c) Q fr σ := by
 intro φ w a ho hf
 refine wpIn_block (wpIn_mono (h φ w a ho hf) ?_)
 rintro e a' w' ⟨fr', σ', hq, ho', hf'⟩
 cases e with
 | exit id' =>
  simp only [blockQ] at hq
  simp only [Exit.inBlock]
  split
  ·rename_i e; rw [if_pos e] at hq; exact ⟨fr', σ', hq, ho', hf'⟩
  ·rename_i e; rw [if_neg e] at hq; exact ⟨fr', σ', hq, ho', hf'⟩
 | _ => exact ⟨fr', σ', hq, ho', hf'⟩
theorem AWF.reg (hF : Open F) {id : Nat} {ops : Array Oper} (hnd : ops.toList.all noDefer = true) (h : AOpsL P B ro N ops (wk (Q .normal)) ops.toList fr σ) : AWF F n ds P B ro N (.region id ops false) Q fr σ := by
 intro φ w a ho hf
 have h1 : AOps P B ro N ops ((fun e => wk (Q e)) .normal) (List.range ops.size) fr σ := by
  rw [List.range_eq_range']
  exact AOps_of_L ops.size 0 (by omega) h
 refine wpIn_mono (wpIn_region (AOps.soundIn hF (Q := fun e => wk (Q e)) (fun i o hi => ?_) _ h1 ho hf)) ?_
 ·have := List.all_eq_true.1 hnd o (by
   rw [Array.getElem?_eq_some_iff] at hi
   obtain ⟨hlt, rfl⟩ := hi
   simp)
  exact this
 ·rintro e a' w' ⟨fr', σ', ⟨fr0, h1, h2⟩, h3, h4⟩
  exact ⟨fr0, σ', h2, h3, h4.weaken h1⟩
theorem AWF.mono {c : Code} {Q' : Exit → Fr → AH → Prop} (h : AWF F n ds P B ro N c Q fr σ) (hq : ∀ e fr σ, Q e fr σ → Q' e fr σ) : AWF F n ds P B ro N c Q' fr σ :=
 fun φ w a ho ha => wpIn_mono (h φ w a ho ha) fun _ _ _ ⟨fr, σ, h1, h2, h3⟩ => ⟨fr, σ, hq _ _ _ h1, h2, h3⟩
end
end SL
namespace SL
open Go
section
variable {n : Nat} {P : Program} {B : World} {ro φ σ : AH} {N : Nat}
theorem Own.keepBlocks {w w' : World} (h : Own B ro φ σ w) (ho : w'.os = w.os) (ht : w'.tape = w.tape) (hp : w'.output = w.output)
  (hs : ∀ b o, σ b = some o → w'.heap[b]? = w.heap[b]?) (hf : ∀ b o, φ b = some o → w'.heap[b]? = w.heap[b]?) (hr : ∀ b o, ro b = some o → w'.heap[b]? = w.heap[b]?) : Own B ro φ σ w' :=
 ⟨ho.trans h.os, ht.trans h.tape, hp.trans h.output, fun b o e => by obtain ⟨h1, h2, h3⟩ := h.own b o e; exact ⟨(hs b o e).trans h1, h2, h3⟩,
  fun b o e => (hf b o e).trans (h.fr b o e), fun b o e => (hr b o e).trans (h.ro b o e)⟩
def allBut (w : World) (σ : AH) : AH := fun b => match σ b with
 | some _ => none
 | none => w.heap[b]?
theorem Own.all {w : World} (h : Own B ro φ σ w) : Own B ro (allBut w σ) σ w := by
 refine ⟨h.os, h.tape, h.output, fun b o e => ?_, fun b o e => ?_, h.ro⟩
 ·obtain ⟨h1, _, h3⟩ := h.own b o e
  exact ⟨h1, by simp [allBut, e], h3⟩
 ·unfold allBut at e
  split at e
  ·cases e
  ·exact e
theorem Own.unall {w w' : World} {σ' : AH} (h : Own B ro φ σ w) (k : Own B ro (allBut w σ) σ' w') : Own B ro φ σ' w' := by
 have hb : ∀ b o, φ b = some o → allBut w σ b = some o := fun b o e => by
  unfold allBut
  cases hs : σ b with
  | some x => have := (h.own b x hs).2.1; rw [e] at this; cases this
  | none => exact h.fr b o e
 refine ⟨k.os, k.tape, k.output, fun b o e => ?_, fun b o e => k.fr b o (hb b o e), k.ro⟩
 obtain ⟨h1, h2, h3⟩ := k.own b o e
 refine ⟨h1, ?_, h3⟩
 cases hp : φ b with
 | none => rfl
 | some x => rw [hb b x hp] at h2; cases h2
structure Round (σ0 : AH) (ks : List Nat) (J : AH → Prop) (σ : AH) (e : Exit) (σ' : AH) : Prop where
 norm : e = .normal
 old : ∀ b o, σ b = some o → ∃ o', σ' b = some o'
 go : ∃ σ'', HLe σ'' σ' ∧ J σ''
theorem wp_rangeFunc {α : Type} {g : Operand} {ps : Array Tmp} {d : Tmp} {src ty : Nat} {pos : String} {rid : Nat} {body : Code} {Q : Exit → Act → World → Prop} {a : Act} {w : World} {fr : Fr}
  (hn : 3 ≤ n) {gf Bs : Nat} (eg : ∀ args w, (callFunc gf args).run P w = .ok (.enter gf args) w)
  {encs : α → Array Value} {S Sp : List α → Prop} {M : Nat} (ks : List Nat)
  (hg : evalF fr g = some (.func (.func gf) #[] #[.pointer (some ⟨Bs, 0, none⟩)]))
  (hseq : SeqStopsK Fence.wide (n - 1) P gf #[.pointer (some ⟨Bs, 0, none⟩)] encs (fun W W' => ∀ k ∈ ks, W'.heap[k]? = W.heap[k]?) S Sp M w)
  (hps : ∀ x, (encs x).size = ps.size) (ho : Own B ro φ σ w) (hf : Fits N fr a)
  (J : List α → AH → Prop) (h0 : J [] σ)
  (hcell : ∀ pre σ', J pre σ' → ∀ b o, σ' b = some o → Obj.isCells o = false → ∃ o', σ b = some o')
  (hkeep : ∀ pre σ', J pre σ' → ∀ k ∈ ks, ∃ o, σ k = some o ∧ σ' k = some o)
  (fr1 : α → Fr)
  (hfr : ∀ x, FitsD N [] (fr1 x) (Act.mk (((ps.zip (encs x)).foldl (fun t (p, v) => t.setIfInBounds p v) a.tmps).setIfInBounds d (((ps.zip (encs x)).foldl (fun t (p, v) => t.setIfInBounds p v) a.tmps).getD src undef)) []))
  (hbody : ∀ (l : Nat) (pre : List α) (x : α) (σ1 : AH), J pre σ1 → pre.length < M →
   AWF (Fence.wide.inRound l) (n - 1 - 1) [] P B ro N body (fun e _ σ2 => Round σ ks (J (pre ++ [x])) σ1 e σ2) (fr1 x) σ1)
  (hdone : ∀ (D : Nat) (xs : List α) (W : World) (σ' : AH), φ D = none → ro D = none → S xs → J xs σ' → Own B ro (upd φ D (.deferred (some []))) σ' W →
   Q .normal { a with defers := { target := .collected D, args := #[] } :: a.defers } W) :
  (Code.rangeFunc g ps (.region rid #[{ dst := some d, op := .assign (.tmp src), type := ty, pos := pos, after := #[], guard := none }] false) body).wpIn Fence.wide n P Q a w := by
 refine wpIn_rangeFunc_ownG (S := S) (Sp := Sp) (N := M) (w0 := w) (encs := encs) rfl (by omega) (hf.agrees _ _ hg) trivial eg hseq
  (fun h1 h2 k hk => (h2 k hk).trans (h1 k hk)) ?hKb (Go.RowKit.Below.refl _ _) hps
  (fun pre W => ∃ σ', Own B ro φ σ' W ∧ J pre σ') (fun _ _ _ => False) ?hI (fun _ _ _ _ _ h => h.elim) ⟨σ, ho, h0⟩
  (fun x => Act.mk (((ps.zip (encs x)).foldl (fun t (p, v) => t.setIfInBounds p v) a.tmps).setIfInBounds d (((ps.zip (encs x)).foldl (fun t (p, v) => t.setIfInBounds p v) a.tmps).getD src undef)) []) ?hassign ?hbody ?hdone ?hstop
 case hKb =>
  intro W l o o' hl hWl _ _ k hk
  obtain ⟨x, hx, _⟩ := hkeep [] σ h0 k hk
  have := ho.lt hx
  exact World.putObj_heap_other (by omega)
 case hI =>
  rintro pre W W' row ⟨σ', hO, hJ⟩ hg hr
  have old : ∀ b o, W.heap[b]? = some o → (o.isCells = false → b < w.heap.size) → W'.heap[b]? = W.heap[b]? := fun b o hb hc => by
   refine hg.block b (lt_of_block hb) fun e => ?_
   obtain ⟨h1, o2, h2, h3⟩ := hr b e.symm
   rw [hb] at h2; cases h2
   have := hc h3; omega
  refine ⟨σ', hO.keepBlocks hg.os hg.tape hg.output (fun b o e => ?_) (fun b o e => ?_) (fun b o e => ?_), hJ⟩
  ·refine old b o (hO.own b o e).1 fun hc => ?_
   obtain ⟨o', h'⟩ := hcell pre σ' hJ b o e hc
   exact ho.lt h'
  ·exact old b o (hO.fr b o e) fun _ => lt_of_block (ho.fr b o e)
  ·exact old b o (hO.ro b o e) fun _ => lt_of_block (ho.ro b o e)
 case hassign =>
  intro l x W K hK
  refine wpIn_region ?_
  show wpOpsIn _ _ _ _ _ (List.range 1) _ _
  simp only [List.range_succ, List.range_zero, List.nil_append, wpOpsIn]
  simp only [List.getElem?_toArray, List.getElem?_cons_zero, Region.wanted]
  refine ⟨fun _ _ => trivial, ?_⟩
  rw [Oper.semAt_eq _ _ _ (fun c e => by cases e)]
  exact hK
 case hbody =>
  rintro l pre x W ⟨σ1, hO, hJ⟩ hlen
  refine wpIn_mono (hbody l pre x σ1 hJ hlen (allBut W σ1) W _ hO.all (hfr x)) ?_
  rintro e a' W' ⟨fr', σ2, ⟨hn, hold, σ3, hle, hJ3⟩, hO2, _⟩
  subst hn
  have hO2' := hO.unall hO2
  have blk : ∀ (k : Nat) (o : Obj), W.heap[k]? = some o → σ1 k = none → W'.heap[k]? = some o := fun k o hk hs => hO2.fr k o (by unfold allBut; rw [hs]; exact hk)
  refine ⟨⟨?_, ?_⟩, ?_, σ3, hO2'.drop hle, hJ3⟩
  ·rcases Nat.eq_zero_or_pos W.heap.size with h | h
   ·omega
   ·have hl : W.heap.size - 1 < W.heap.size := by omega
    have hx : W.heap[W.heap.size - 1]? = some W.heap[W.heap.size - 1] := Array.getElem?_eq_getElem hl
    have : ∃ o, W'.heap[W.heap.size - 1]? = some o := by
     cases hs : σ1 (W.heap.size - 1) with
     | none => exact ⟨_, blk _ _ hx hs⟩
     | some o => obtain ⟨o', h'⟩ := hold _ o hs; exact ⟨o', (hO2.own _ _ h').1⟩
    obtain ⟨o, h'⟩ := this
    have := lt_of_block h'; omega
  ·intro k o hk ho' hc
   refine blk k o ho' ?_
   cases hs : σ1 k with
   | none => rfl
   | some o2 =>
    have := (hO.own k o2 hs).1
    rw [ho'] at this; cases this
    obtain ⟨o3, h3⟩ := hcell pre σ1 hJ k o hs hc
    have := ho.lt h3; omega
  ·intro k hk
   obtain ⟨o, h1, h2⟩ := hkeep _ _ hJ k hk
   obtain ⟨o', h3, h4⟩ := hkeep _ _ hJ3 k hk
   rw [h1] at h3; cases h3
   rw [(hO.own k o h2).1, (hO2'.own k o (hle k o h4)).1]
 case hdone =>
  rintro D xs W hD hS ⟨σ', hO, hJ⟩ hW
  have nD : σ' D = none := by
   cases hs : σ' D with
   | none => rfl
   | some o =>
    have := (hO.own D o hs).1
    rw [hW] at this; cases this
    obtain ⟨o', h'⟩ := hcell xs σ' hJ D _ hs rfl
    have := ho.lt h'; omega
  have fD : φ D = none := by
   cases hs : φ D with
   | none => rfl
   | some o => have := lt_of_block (ho.fr D o hs); omega
  have rD : ro D = none := by
   cases hs : ro D with
   | none => rfl
   | some o => have := lt_of_block (ho.ro D o hs); omega
  refine hdone D xs W σ' fD rD hS hJ ⟨hO.os, hO.tape, hO.output, fun b o e => ?_, fun b o e => ?_, hO.ro⟩
  ·obtain ⟨h1, h2, h3⟩ := hO.own b o e
   refine ⟨h1, ?_, h3⟩
   unfold upd
   rw [if_neg (fun h => by subst h; rw [nD] at e; cases e)]
   exact h2
  ·unfold upd at e
   split at e
   ·rename_i h; subst h; cases e; exact hW
   ·exact hO.fr b o e
 case hstop =>
  rintro D c pre W _ _ h _
  exact h.elim
theorem bodyM_of {fn : Func} {Q : Value → AH → Prop} {a : Act} {w : World} {fr : Fr} {D : Nat} (hf : FitsD N [{ target := .collected D, args := #[] }] fr a) (fD : φ D = none) (rD : ro D = none)
  (ho : Own B ro (upd φ D (.deferred (some []))) σ w)
  (h : ∃ v, (∀ tmps : Array Value, (∀ i u, look fr i = some u → tmps[i]? = some u) → aread P ro (results fn tmps) σ = some v) ∧ Q v σ) :
  bodyPostM Fence.wide n P fn (fun e w' => ∃ v σ', e = .returned v ∧ Q v σ' ∧ Own B ro φ σ' w') .ret a w := by
 obtain ⟨v, hr, hq⟩ := h
 have hD : w.heap[D]? = some (.deferred (some [])) := ho.fr D _ (by simp [upd])
 have hO : Own B ro φ σ (w.putObj D (.deferred none)) := by
  refine ⟨ho.os, ho.tape, ho.output, fun b o e => ?_, fun b o e => ?_, fun b o e => ?_⟩
  ·obtain ⟨h1, h2, h3⟩ := ho.own b o e
   have hne : b ≠ D := fun h => by subst h; simp [upd] at h2
   exact ⟨(World.putObj_heap_other hne).trans h1, by unfold upd at h2; rw [if_neg hne] at h2; exact h2, h3⟩
  ·have hne : b ≠ D := fun h => by subst h; rw [fD] at e; cases e
   exact (World.putObj_heap_other hne).trans (ho.fr b o (by unfold upd; rw [if_neg hne]; exact e))
  ·have hne : b ≠ D := fun h => by subst h; rw [rD] at e; cases e
   exact (World.putObj_heap_other hne).trans (ho.ro b o e)
 show LeavesInM _ _ _ _ _ _ a.defers _ _
 rw [hf.defers]
 refine ⟨by simp, .inl ⟨D, _, rfl, run_takeDeferred hD, ?_⟩⟩
 exact ⟨v, aread_sound _ (hr _ hf.has) hO, v, σ, rfl, hq, hO⟩
theorem ACalls.of_marks {f : FuncId} {fn : Func} {c : Code} {args : List Value} {Q : Value → AH → Prop} (hf : P.funcs[f]? = some fn) (hb : fn.body = some c)
  (hn : args.length ≤ fn.ntmps) (h : ∀ φ w a, Own B ro φ σ w → Fits fn.ntmps (initFr args 0) a → c.wpIn Fence.wide n P (bodyPostM Fence.wide n P fn (fun e w' => ∃ v σ', e = .returned v ∧ Q v σ' ∧ Own B ro φ σ' w')) a w) :
  ACalls P B ro f args.toArray σ Q := by
 intro φ w ho
 refine (callsIn_wide (n := n)).1 ?_
 refine callsIn_of_wp_marks hf hb trivial ?_ rfl
 refine h φ w _ ho ⟨by simp; omega, rfl, ?_⟩
 intro i v hi
 obtain ⟨_, h2⟩ := look_initFr args 0 i v hi
 simp only [Nat.sub_zero] at h2
 have hlt : i < args.length := by
  rcases Nat.lt_or_ge i args.length with h' | h'
  ·exact h'
  ·rw [List.getElem?_eq_none h'] at h2; cases h2
 simp [Array.getElem?_append, hlt]
 simpa [List.getElem?_eq_getElem hlt] using h2
end
end SL
namespace Back
open Go Go.RowKit Go.Shelf
attribute [local go_sem] Oper.semAt_some
def upto {α : Type} (f : Nat → α) (k : Nat) : List α := (List.range k).map f
theorem upto_succ {α : Type} (f : Nat → α) (k : Nat) : upto f (k + 1) = upto f k ++ [f k] := by simp [upto, List.range_succ]
theorem upto_length {α : Type} (f : Nat → α) (k : Nat) : (upto f k).length = k := by simp [upto]
def bk (zs : List ByteArray) (k : Nat) : Int × ByteArray := ((zs.length : Int) - 1 - k, (zs[zs.length - 1 - k]?).getD ByteArray.empty)
def Kp (ks : List Nat) (W W' : World) : Prop := ∀ k ∈ ks, W'.heap[k]? = W.heap[k]?
theorem Kp.refl (ks : List Nat) (W : World) : Kp ks W W := fun _ _ => rfl
theorem Kp.trans {ks : List Nat} {A B C : World} (h : Kp ks A B) (h' : Kp ks B C) : Kp ks A C := fun k hk => (h' k hk).trans (h k hk)
theorem Kp.cell {ks : List Nat} {A B : World} (h : Kp ks A B) {p : Addr} (hp : p.block ∈ ks) : B.cell? p = A.cell? p := World.cell?_of_block (h _ hp)
theorem back1 (n : Nat) (hn : 1 ≤ n) (l Bs b off cap : Nat) (zs : List ByteArray) (hreach : zs.length * 8 ≤ 140737488351232) (J Jx : List (Int × ByteArray) → World → Prop)
  (hY : ∀ pre x W, J pre W → pre.length < zs.length → YieldAt Fence.wide (n - 1) prog l #[.int .i64 x.1, .string x.2] W fun e W' =>
   (e = .returned (.bool true) ∧ J (pre ++ [x]) W' ∧ Kp [Bs, b] W W') ∨ (e = .returned (.bool false) ∧ Jx (pre ++ [x]) W'))
  (W : World) (hBs : W.cell? ⟨Bs, 0, none⟩ = some (.slice (some ⟨b, off, none⟩) zs.length cap)) (hc : ∀ j, j < zs.length → W.cell? ⟨b, off + j, none⟩ = some (.string ((zs[j]?).getD ByteArray.empty))) (h0 : J [] W) :
  CallsIn Fence.wide n prog 126 #[.func (.yield l) #[] #[], .pointer (some ⟨Bs, 0, none⟩)] W fun e W' => (∃ v, e = .returned v) ∧
   ((∃ ys, ys = upto (bk zs) zs.length ∧ J ys W') ∨ (∃ pre, (∃ k, k ≤ zs.length ∧ pre = upto (bk zs) k) ∧ Jx pre W')) := by
 refine callsIn_of_wp func126 rfl trivial ?_ rfl
 simp only [ntmps126, List.size_toArray, List.length_cons, List.length_nil, Nat.reduceAdd, Nat.reduceSub, Array.replicate_succ, Array.replicate_zero, List.push_toArray, List.append_toArray, List.nil_append, List.cons_append]
 gi_wp2
 gi_loopw [3] (fun i wr => ∃ k : Nat, k ≤ zs.length ∧ i = .int .i64 ((zs.length : Int) - 1 - k) ∧ J (upto (bk zs) k) wr ∧ Kp [Bs, b] W wr)
  (fun i _ => (intOf i + 1).toNat)
 case atStart => exact ⟨0, Nat.zero_le _, by simp, h0, Kp.refl _ _⟩
 case round =>
  obtain ⟨k, hk, rfl, hJs, hnx⟩ := hrel
  have hB' : wr.cell? ⟨Bs, 0, none⟩ = some (.slice (some ⟨b, off, none⟩) zs.length cap) := (hnx.cell (p := ⟨Bs, 0, none⟩) (by simp)).trans hBs
  by_cases hlt : k < zs.length
  ·have hcx : wr.cell? ⟨b, off + (zs.length - 1 - k), none⟩ = some (.string ((zs[zs.length - 1 - k]?).getD ByteArray.empty)) := (hnx.cell (p := ⟨b, off + (zs.length - 1 - k), none⟩) (by simp)).trans (hc _ (by omega))
   obtain ⟨fn, tmps, assign, body, hy, hR⟩ := hY _ (bk zs k) wr hJs (by rw [upto_length]; exact hlt)
   dsimp only [bk] at hy
   have e1 : ((zs.length : Int) - 1 - k).toNat = zs.length - 1 - k := by omega
   gi_wp2
   refine hR.mono ?_
   rintro e W3 (⟨rfl, hJ3, hk3⟩ | ⟨rfl, hJx3⟩)
   ·gi_wp2
    go_roundw
    case rel => exact ⟨k + 1, by omega, by simp; omega, by rw [upto_succ]; exact hJ3, hnx.trans hk3⟩
    case measure => simp [intOf]; omega
   ·gi_wp2
    refine bodyPost_ret (results_none rfl _ _ _) rfl ?_
    exact ⟨⟨_, rfl⟩, .inr ⟨_, ⟨k + 1, by omega, (upto_succ _ _).symm⟩, hJx3⟩⟩
  ·obtain rfl : k = zs.length := by omega
   gi_wp2
   go_end0
   exact ⟨⟨_, rfl⟩, .inl ⟨_, rfl, hJs⟩⟩
theorem back1_nil (n l Bs : Nat) (J : List (Int × ByteArray) → World → Prop) (W : World) (hBs : W.cell? ⟨Bs, 0, none⟩ = some (.slice none 0 0)) (h0 : J [] W) :
  CallsIn Fence.wide n prog 126 #[.func (.yield l) #[] #[], .pointer (some ⟨Bs, 0, none⟩)] W fun e W' => (∃ v, e = .returned v) ∧ J [] W' := by
 refine callsIn_of_wp func126 rfl trivial ?_ rfl
 simp only [ntmps126, List.size_toArray, List.length_cons, List.length_nil, Nat.reduceAdd, Nat.reduceSub, Array.replicate_succ, Array.replicate_zero, List.push_toArray, List.append_toArray, List.nil_append, List.cons_append]
 gi_wp2
 gi_loopw [3] (fun i wr => i = .int .i64 (-1) ∧ J [] wr) (fun _ _ => 0)
 case atStart => exact ⟨rfl, h0⟩
 case round =>
  obtain ⟨rfl, hJs⟩ := hrel
  gi_wp2
  go_end0
  exact ⟨⟨_, rfl⟩, hJs⟩
theorem stops (n : Nat) (hn : 1 ≤ n) (Bs : Nat) (s : SL.Sl) (zs : List ByteArray) (ks : List Nat) (hreach : zs.length * 8 ≤ 140737488351232) (w : World)
  (hBs : w.cell? ⟨Bs, 0, none⟩ = some s.v) (hBl : Bs < w.heap.size) (hkB : Bs ∈ ks)
  (hI : (s = ⟨none, 0, 0⟩ ∧ zs = []) ∨ ∃ b cap, s = ⟨some ⟨b, 0, none⟩, zs.length, cap⟩ ∧ b < w.heap.size ∧ b ∈ ks ∧ ∀ j, j < zs.length → w.cell? ⟨b, j, none⟩ = some (.string ((zs[j]?).getD ByteArray.empty))) :
  SeqStopsK Fence.wide n prog 126 #[.pointer (some ⟨Bs, 0, none⟩)] (fun x : Int × ByteArray => #[Value.int .i64 x.1, .string x.2]) (Kp ks) (fun ys => ys = upto (bk zs) zs.length) (fun _ => True) zs.length w := by
 intro l J Jx W hW _ _ hY h0
 have hc' := (hW.cell (p := ⟨Bs, 0, none⟩) hBl).trans hBs
 rcases hI with ⟨rfl, rfl⟩ | ⟨b, cap, rfl, hb, hkb, hcs⟩
 ·exact (back1_nil n l Bs J W hc' h0).mono fun e W' ⟨he, hj⟩ => ⟨he, .inl ⟨_, rfl, hj⟩⟩
 ·refine (back1 n hn l Bs b 0 cap zs hreach J Jx (fun pre x W hJ hl => ?_) W hc' (fun j hj => ?_) h0).mono ?_
  ·obtain ⟨fn, tmps, assign, body, hy, hR⟩ := hY pre x W hJ hl
   refine ⟨fn, tmps, assign, body, hy, hR.mono ?_⟩
   rintro e W' (⟨h1, h2, h3⟩ | h)
   ·refine .inl ⟨h1, h2, fun k hk => h3 k ?_⟩
    simp at hk
    rcases hk with rfl | rfl <;> assumption
   ·exact .inr h
  ·rw [Nat.zero_add]
   exact (hW.cell (p := ⟨b, j, none⟩) hb).trans (hcs j hj)
  ·rintro e W' ⟨he, ⟨ys, h1, h2⟩ | ⟨pre, _, h2⟩⟩
   ·exact ⟨he, .inl ⟨ys, h1, h2⟩⟩
   ·exact ⟨he, .inr ⟨pre, trivial, h2⟩⟩
end Back
namespace G
open Go SL
variable {B : World} {ro σ : AH}
theorem AWF.iff {F : Fence} {n : Nat} {ds : List Deferred} {P : Program} {B : World} {ro : AH} {N : Nat} {fr : Fr} {σ : AH} {Q : Exit → Fr → AH → Prop} {c : Operand} {x y : Code} {b : Bool} {p : Prop} [Decidable p] {X Y : Prop} (hc : evalF fr c = some (.bool b)) (hi : b = true ↔ p) (h : if p then X else Y)
  (ht : X → AWF F n ds P B ro N x Q fr σ) (hn : Y → AWF F n ds P B ro N y Q fr σ) : AWF F n ds P B ro N (.cond c x y) Q fr σ := by
 refine AWF.cond hc (fun e => ht ?_) (fun e => hn ?_)
 ·rw [if_pos (hi.1 e)] at h; exact h
 ·rw [if_neg (fun q => by rw [hi.2 q] at e; cases e)] at h; exact h
theorem wpIn_pre {n : Nat} {P : Program} {B : World} {ro φ σ : AH} {N : Nat} {x y : Code} {R : Exit → Act → World → Prop} {fr : Fr} {w : World} {a : Act}
  (h : AW P B ro N x (thenQ (fun fr σ => ∀ w a, SL.Own B ro φ σ w → Fits N fr a → y.wpIn Fence.wide n P R a w) (fun _ _ _ => False)) fr σ) (ho : SL.Own B ro φ σ w) (hf : Fits N fr a) : (Code.seq x y).wpIn Fence.wide n P R a w := by
 refine wpIn_seq (wpIn_wide.2 (wp_mono (h φ w a ho hf) ?_))
 rintro e a' w' ⟨fr', σ', hq, ho', hf'⟩
 cases e with
 | normal => exact hq w' a' ho' hf'
 | _ => exact hq.elim
def rndE (ro : AH) (a0 : ByteArray) (a3 : Addr) (Q : AH → Prop) (x31_6 : Bool) (σ : AH) : Prop :=
 if x31_6 = true then
 ∃ (x32_7 : Sl), acell ro σ a3 = some (Sl.v x32_7) ∧
 nw ro σ (.cells #[.int .i64 2, .string a0] 108) fun x35_8 σ =>
 awp prog ro (Builtin.append_ #[75, 75] 75 #[Sl.v x32_7, Sl.v (⟨some ⟨x35_8, 0, none⟩, 1, 1⟩ : Sl)]) (fun v σ => ∃ (x36_9 : Sl), v = Sl.v x36_9 ∧
  stN a3 (fun σ => Q σ) [Sl.v x36_9] 0 σ) σ
 else
 Q σ
def rnd (B : World) (ro : AH) (a0 : ByteArray) (a1 : Addr) (a2 : Addr) (a3 : Addr) (σ : AH) (Q : AH → Prop) : Prop :=
 c_path_Home B ro a0 σ fun x20_2 x20_3 σ =>
 ∃ (x24_4 : ByteArray), acell ro σ a2 = some (.string x24_4) ∧
 if x20_2 = x24_4 then
 ∃ (x27_10 : Option Addr), acell ro σ a1 = some (.pointer x27_10) ∧
 c_ztree_Tree_Delete B ro x27_10 a0 (-1) σ fun x29_11 σ =>
 rndE ro a0 a3 Q (decide (x29_11 = 0)) σ
 else
 rndE ro a0 a3 Q false σ
def sweepL (B : World) (ro : AH) (b3 b4 b7 bb : Nat) (s : Sl) (σ : AH) (Q : Sl → AH → Prop) : Prop :=
 ∃ (zs : List ByteArray) (J : List (Int × ByteArray) → AH → Prop),
  ((s = ⟨none, 0, 0⟩ ∧ zs = []) ∨ ∃ b cap o, s = ⟨some ⟨b, 0, none⟩, zs.length, cap⟩ ∧ σ b = some o ∧ (∀ pre σ', J pre σ' → σ' b = some o) ∧ ∀ j, j < zs.length → cellOf ⟨b, j, none⟩ (some o) = some (.string ((zs[j]?).getD ByteArray.empty))) ∧
  zs.length * 8 ≤ 140737488351232 ∧ J [] σ ∧
  (∀ pre σ', J pre σ' → ∀ b o, σ' b = some o → Obj.isCells o = false → ∃ o', σ b = some o') ∧
  (∃ o, σ bb = some o ∧ cellOf ⟨bb, 0, none⟩ (some o) = some (Sl.v s) ∧ ∀ pre σ', J pre σ' → σ' bb = some o) ∧
  (∀ pre x σ1, J pre σ1 → pre.length < zs.length → rnd B ro x.2 ⟨b3, 0, none⟩ ⟨b4, 0, none⟩ ⟨b7, 0, none⟩ σ1 fun σ2 => (∀ b o, σ1 b = some o → ∃ o', σ2 b = some o') ∧ ∃ σ3, HLe σ3 σ2 ∧ J (pre ++ [x]) σ3) ∧
  (∀ σ', J (Back.upto (Back.bk zs) zs.length) σ' → ∃ so, acell ro σ' ⟨b7, 0, none⟩ = some (Sl.v so) ∧ Q so σ')
def sweepF (B : World) (ro : AH) (a0 : Option Addr) (a1 : ByteArray) (a2 : Sl) (σ : AH) (Q : Sl → AH → Prop) : Prop :=
 nw ro σ (.cells #[.pointer a0] 23) fun x3_1 σ =>
 nw ro σ (.cells #[.string a1] 9) fun x4_2 σ =>
 nw ro σ (.cells #[Sl.v (⟨none, 0, 0⟩ : Sl)] 75) fun x7_3 σ =>
 ∃ (x12_4 : Option Addr), acell ro σ ⟨x3_1, 0, none⟩ = some (.pointer x12_4) ∧
 c_ztree_Tree_Owned B ro x12_4 a2 σ fun x14_5 σ =>
 nw ro σ (.cells #[Sl.v x14_5] 25) fun x1_1 σ =>
 sweepL B ro x3_1 x4_2 x7_3 x1_1 x14_5 σ Q
theorem multi_Sweep_ok {a0 : Option Addr} {a1 : ByteArray} {a2 : Sl} {Q : Sl → AH → Prop} (h : Sep ro σ → sweepF B ro a0 a1 a2 σ Q) : c_multi_Sweep B ro a0 a1 a2 σ Q := by
 refine ACalls.of_sep fun hsep => ?_
 replace h := h hsep
 refine ACalls.of_marks (n := 5) (args := [.pointer a0, .string a1, Sl.v a2]) func45 rfl (by rw [ntmps45]; simp) ?_
 rw [ntmps45]
 unfold sweepF at h
 intro φ w a ho hf
 refine wpIn_pre ?_ ho hf
 clear ho hf
 refine AW.reg ?_; refine Ls rfl rfl (X_new (A_box rfl rfl) fun x3_1 g1 g2 => ?_)
 replace h := h x3_1 g1 g2
 refine Ls rfl rfl (X_new (A_box rfl rfl) fun x4_2 g1 g2 => ?_)
 replace h := h x4_2 g1 g2
 refine Lp (V_asg rfl rfl) rfl rfl ?_
 refine Lnil ?_; refine thenN ?_
 intro w a ho hf
 refine wpIn_pre ?_ ho hf
 clear ho hf
 refine AW.reg ?_; refine Ls rfl rfl (X_new (A_alloc rfl ty75) fun x7_3 g1 g2 => ?_)
 replace h := h x7_3 g1 g2
 refine Lnil ?_; refine thenN ?_
 intro w a ho hf
 refine wpIn_seq ?_
 refine wpIn_pre ?_ ho hf
 clear ho hf
 refine AW.reg ?_; obtain ⟨x12_4, hc, h⟩ := h
 refine Ls rfl rfl (X_ld rfl underlying23 rfl rfl hc ?_)
 refine Lp (V_move rfl rfl) rfl rfl ?_
 refine Ls rfl rfl (X_call rfl func87 rfl rfl rfl (ACalls.mono h ?_))
 rintro v σ ⟨x14_5, rfl, h⟩; refine Ls rfl rfl (X_call rfl func101 rfl rfl rfl (ACalls.mono (slices_Backward_string_string_ok (Q := fun v σ => ∃ x1, v = .func (.func 126) #[] #[.pointer (some ⟨x1, 0, none⟩)] ∧ sweepL B ro x3_1 x4_2 x7_3 x1 x14_5 σ Q) fun _ => ?_) ?_))
 ·unfold f_slices_Backward_string_string
  intro x1 g1 g2
  exact ⟨x1, rfl, h x1 g1 g2⟩
 rintro x15_6 σ ⟨_, rfl, x1, rfl, h⟩
 refine Lnil ?_; refine thenN ?_
 intro w a ho hf
 refine wpIn_block ?_
 obtain ⟨zs, J, hrow, hreach, h0, hcl, ⟨ob, hob, hobc, hobk⟩, hround, hend⟩ := h
 have hBl : x1 < w.heap.size := ho.lt hob
 have hBc : w.cell? ⟨x1, 0, none⟩ = some x14_5.v := by rw [cell?_eq, (ho.own _ _ hob).1]; exact hobc
 obtain ⟨ks, hk1, hkeep, hI⟩ : ∃ ks : List Nat, x1 ∈ ks ∧ (∀ pre σ', J pre σ' → ∀ k ∈ ks, ∃ o, σ k = some o ∧ σ' k = some o) ∧
   ((x14_5 = ⟨none, 0, 0⟩ ∧ zs = []) ∨ ∃ b cap, x14_5 = ⟨some ⟨b, 0, none⟩, zs.length, cap⟩ ∧ b < w.heap.size ∧ b ∈ ks ∧ ∀ j, j < zs.length → w.cell? ⟨b, j, none⟩ = some (.string ((zs[j]?).getD ByteArray.empty))) := by
  rcases hrow with h1 | ⟨b, cap, o, h1, h2, h3, h4⟩
  ·refine ⟨[x1], by simp, fun pre σ' hJ k hk => ?_, .inl h1⟩
   simp at hk; subst hk
   exact ⟨ob, hob, hobk pre σ' hJ⟩
  ·refine ⟨[x1, b], by simp, fun pre σ' hJ k hk => ?_, .inr ⟨b, cap, h1, ho.lt h2, by simp, fun j hj => ?_⟩⟩
   ·simp at hk
    rcases hk with rfl | rfl
    ·exact ⟨ob, hob, hobk pre σ' hJ⟩
    ·exact ⟨o, h2, h3 pre σ' hJ⟩
   ·rw [cell?_eq, (ho.own _ _ h2).1]
    exact h4 j hj
 refine wp_rangeFunc (gf := 126) (Bs := x1) (by omega) (enters_of func126 (by kernel_rfl) rfl) ks rfl (Back.stops 4 (by omega) x1 x14_5 zs ks hreach w hBc hBl hk1 hI) (fun _ => rfl) ho hf J h0 hcl hkeep
  (fun x => [(9, .string x.2), (3, .pointer (some ⟨x3_1, 0, none⟩)), (4, .pointer (some ⟨x4_2, 0, none⟩)), (7, .pointer (some ⟨x7_3, 0, none⟩))]) ?hfr ?hbody ?hdone
 case hfr =>
  intro x
  have k := ((hf.put (d := some 16) rfl (.int .i64 x.1)).put (d := some 17) rfl (.string x.2)).put (d := some 9) rfl (.string x.2)
  have k' := (k.weaken (FrLe.cons rfl (FrLe.cons rfl (FrLe.cons rfl (FrLe.cons rfl (FrLe.nil _))))) : Fits 38 [(9, .string x.2), (3, .pointer (some ⟨x3_1, 0, none⟩)), (4, .pointer (some ⟨x4_2, 0, none⟩)), (7, .pointer (some ⟨x7_3, 0, none⟩))] _).d
  have e : ((#[16, 17].zip #[Value.int .i64 x.1, .string x.2]).foldl (fun t (p, v) => t.setIfInBounds p v) a.tmps) = (a.tmps.setIfInBounds 16 (.int .i64 x.1)).setIfInBounds 17 (.string x.2) := by simp
  have e2 : ((a.tmps.setIfInBounds 16 (.int .i64 x.1)).setIfInBounds 17 (.string x.2)).getD 17 undef = .string x.2 := by simp [Array.getD_eq_getD_getElem?, hf.size]
  refine ⟨?_, rfl, fun i v h => ?_⟩
  ·have := k'.size
   rw [e, e2]
   exact this
  ·have := k'.has i v h
   rw [e, e2]
   exact this
 case hbody =>
  intro l pre x σ1 hJ hlen
  obtain ⟨R, hR, h⟩ : ∃ R : AH → Prop, (∀ σ2, R σ2 → (∀ b o, σ1 b = some o → ∃ o', σ2 b = some o') ∧ ∃ σ3, HLe σ3 σ2 ∧ J (pre ++ [x]) σ3) ∧ rnd B ro x.2 ⟨x3_1, 0, none⟩ ⟨x4_2, 0, none⟩ ⟨x7_3, 0, none⟩ σ1 R := ⟨_, fun _ h => h, hround pre x σ1 hJ hlen⟩
  clear hround hend
  refine AWF.mono (Q := fun e fr σ => e = .normal ∧ R σ) ?_ (fun e fr σ ⟨h1, h2⟩ => ⟨h1, (hR σ h2).1, (hR σ h2).2⟩)
  have hO := Open.round l
  unfold rnd at h; refine AWF.block ?_
  refine AWF.seq ?_
  refine AWF.reg hO rfl ?_
  refine Lp (V_move rfl rfl) rfl rfl ?_
  refine Ls rfl rfl (X_call rfl func97 rfl rfl rfl (ACalls.mono h ?_))
  rintro v σ ⟨x20_2, x20_3, rfl, h⟩; refine Lp (V_move rfl rfl) rfl rfl ?_
  refine Lp (V_ext rfl rfl rfl) rfl rfl ?_
  refine Lp (V_ext rfl rfl rfl) rfl rfl ?_
  refine Lp (V_asg rfl rfl) rfl rfl ?_
  refine Lp (V_asg rfl rfl) rfl rfl ?_
  refine Lnil ?_; refine thenN ?_; refine AWF.seq ?_
  refine AWF.reg hO rfl ?_
  refine Lp (V_move rfl rfl) rfl rfl ?_
  obtain ⟨x24_4, hc, h⟩ := h
  refine Ls rfl rfl (X_ld rfl underlying9 rfl rfl hc ?_)
  refine Lp (V_eqlS rfl rfl rfl) rfl rfl ?_
  refine Lp (V_move rfl rfl) rfl rfl ?_
  refine LsplitJ 5 (decide (x20_2 = x24_4)) decide_eq_true_iff h (fun fr σ => ∃ (x31_6 : Bool), FrLe [(9, .string x.2), (7, .pointer (some ⟨x7_3, 0, none⟩)), (31, .bool x31_6)] fr ∧ rndE ro x.2 ⟨x7_3, 0, none⟩ R x31_6 σ) ?_ ?_ ?_
  ·intro h e3 hk3; obtain ⟨x27_10, hc, h⟩ := h
   refine Lyb rfl rfl rfl rfl e3 (X_ld rfl underlying23 rfl rfl hc ?_)
   refine Lypb (V_move rfl rfl) rfl rfl rfl rfl e3 ?_
   refine Lyb rfl rfl rfl rfl e3 (X_call rfl func24 rfl rfl rfl (ACalls.mono h ?_))
   rintro v σ ⟨x29_11, rfl, h⟩; refine Lypb (V_eql rfl rfl rfl) rfl rfl rfl rfl e3 ?_
   refine Lp (V_pickT rfl (evb e3) rfl) rfl rfl ?_
   exact hk3 _ _ ⟨_, (FrLe.cons rfl (FrLe.cons rfl (FrLe.cons rfl (FrLe.nil _)))), h⟩
  ·intro h e3 hk3; refine Ln rfl rfl rfl rfl (.inl (by rw [e3]; rfl)) ?_
   refine Ln rfl rfl rfl rfl (.inl (by rw [e3]; rfl)) ?_
   refine Ln rfl rfl rfl rfl (.inl (by rw [e3]; rfl)) ?_
   refine Ln rfl rfl rfl rfl (.inl (by rw [e3]; rfl)) ?_
   refine Lp (V_pickF rfl (evb e3) rfl) rfl rfl ?_
   exact hk3 _ _ ⟨_, (FrLe.cons rfl (FrLe.cons rfl (FrLe.cons rfl (FrLe.nil _)))), h⟩
  rintro fr σ ⟨x31_6, hl, h⟩; unfold rndE at h; refine Lfr hl ?_
  refine Lnil ?_; refine thenN ?_; refine AWF.iff rfl Iff.rfl h (fun h => ?_) (fun h => ?_)
  rotate_left
  ·refine AWF.skip ?_
   exact blockN ⟨rfl, h⟩
  refine AWF.reg hO rfl ?_
  obtain ⟨x32_7, hc, h⟩ := h
  refine Ls rfl rfl (X_ld rfl underlying75 rfl rfl hc ?_)
  refine Lp (V_move rfl rfl) rfl rfl ?_
  refine Lp (V_bld (vs := [(0, .int .i64 2), (1, .string x.2)]) (cs := #[.int .i64 2, .string x.2]) rfl underlying108 ty108 pl108 rfl rfl) rfl rfl ?_
  refine Ls rfl rfl (X_new (A_bsl (vs := [(0, .agg #[.int .i64 2, .string x.2])]) (cs := #[.int .i64 2, .string x.2]) rfl underlying75 ty108 (by decide) rfl rfl) fun x35_8 g1 g2 => ?_)
  replace h := h x35_8 g1 g2
  refine Ls rfl rfl (X_bi (s := Builtin.append_ #[75, 75] 75 #[Sl.v x32_7, Sl.v (⟨some ⟨x35_8, 0, none⟩, 1, 1⟩ : Sl)]) rfl rfl (fun _ => rfl) (awp_mono _ h ?_))
  rintro v σ ⟨x36_9, rfl, h⟩; refine Ls rfl rfl (X_st rfl ty75 rfl rfl rfl rfl (stN_mono h fun σ h => ?_))
  refine Lnil ?_; exact blockN ⟨rfl, h⟩
 case hdone =>
  intro D xs W σ' fD rD hS hJ hO
  subst hS
  obtain ⟨so, hc, hq⟩ := hend σ' hJ
  show Code.wpIn _ _ _ _ _ _ _
  refine wpIn_mono ((?hT : AWF Fence.wide 5 [{ target := .collected D, args := #[] }] prog B ro 38 _ (fun e fr σ => e = .ret ∧ SL.look fr 6 = some (Sl.v so) ∧ Q so σ) [(7, .pointer (some ⟨x7_3, 0, none⟩))] σ') _ W _ hO ⟨hf.size, ?hd, fun i v h => hf.has i v ?hl⟩) ?hp
  case hT =>
   refine AWF.seq ?_
   refine AWF.reg Open.wide rfl ?_
   refine Ls rfl rfl (X_ld rfl underlying75 rfl rfl hc ?_)
   refine Lp (V_asg rfl rfl) rfl rfl ?_
   refine Lnil ?_; refine thenN ?_; exact AWF.ret ⟨rfl, rfl, hq⟩
  case hd => rw [hf.defers]
  case hl => exact (FrLe.cons rfl (FrLe.nil _) : FrLe [(7, .pointer (some ⟨x7_3, 0, none⟩))] _) i v h
  case hp =>
   rintro e a' W' ⟨fr', σ2, ⟨rfl, hl, hq⟩, hO2, hf2⟩
   exact bodyM_of (Q := fun v σ => ∃ (r0 : Sl), v = Sl.v r0 ∧ Q r0 σ) hf2 fD rD hO2 (ret1 (R := fun v σ => ∃ (r0 : Sl), v = Sl.v r0 ∧ Q r0 σ) results45 hl ⟨so, rfl, hq⟩)
end G
namespace Zt
open Go SL G Pa
variable {B : World} {ro σ σ' : AH} {tag tag' : Nat → Nat}
theorem homeX_ok {s : ByteArray} {Q : ByteArray → Int → AH → Prop} (g : Glob ro) (hQ : ∀ e tag' σ', Step [] ro tag σ tag' σ' → Q (S ((homeOf (L s)).getD [])) e σ') : c_path_Home B ro s σ Q := by
 cases hp : parts (L s) with
 | some ps => exact home_ok g hp fun tag' σ' st => hQ 0 tag' σ' st
 | none =>
  refine path_Home_ok fun hs => ?_
  unfold f_path_Home
  refine partsN2_ok (tag := tag) 0 g hs (fun h tag1 σ1 st1 => ?_) fun ps' h => by rw [hp] at h; cases h
  rw [if_pos (by rfl)]
  have := hQ 20 tag1 σ1 st1
  unfold homeOf at this
  rw [hp] at this
  exact this
end Zt
namespace G
open Go SL
variable {B : World} {ro σ : AH}
def j2_ref08_Apply (B : World) (ro : AH) (u0 : Option Addr) (Q : Option Addr → Sl → Sl → Int → Int → AH → Prop) (u1 : Sl) (u2 : Sl) (σ : AH) : Prop :=
 Q u0 u1 u2 (-1) 0 σ
def j9_ref08_Apply (B : World) (ro : AH) (a0 : Option Addr) (a1 : ByteArray) (a2 : Int) (a3 : Int) (a4 : Int) (a5 : Sl) (u0 : Int) (u1 : Option Addr) (Q : Option Addr → Sl → Sl → Int → Int → AH → Prop) (Y5 : (Sl × Sl × Int) → AH → Prop) (u2 : Sl) (u3 : Sl) (σ : AH) : Prop :=
 Y5 (u2, u3, i64.wrap (u0 + 1)) σ
def l5_ref08_Apply (B : World) (ro : AH) (a0 : Option Addr) (a1 : ByteArray) (a2 : Int) (a3 : Int) (a4 : Int) (a5 : Sl) (u0 : Option Addr) (Q : Option Addr → Sl → Sl → Int → Int → AH → Prop) : (Sl × Sl × Int) → AH → ((Sl × Sl × Int) → AH → Prop) → Prop := fun ⟨u1, u2, u3⟩ σ Y5 =>
 if u3 < (a5.len : Int) then
 ∃ p4, a5.a = some p4 ∧ (0 : Int) ≤ u3 ∧ u3 < (a5.len : Int) ∧
 ∃ u5 u6 u7 u8 u9 u10, cellsAt ro σ (p4.add (Int.toNat u3 * 6)) 0 [.int .i64 u5, .string u6, Sl.v u7, .int .i64 u8, .bool u9, .bool u10] ∧
 c_ref08_one B ro u0 a1 a2 a3 a4 u5 u6 u7 u8 u9 u10 σ fun u11 u12 u13 σ =>
 nw ro σ (.cells #[.string ByteArray.empty, .int .i64 0] 175) fun u14 σ =>
 stN ⟨u14, 0, none⟩ (fun σ =>
  if ¬ (u13 = 0) then
  Q a0 (⟨none, 0, 0⟩ : Sl) (⟨none, 0, 0⟩ : Sl) u3 u13 σ
  else
  ∃ u15 u16, cellsAt ro σ ⟨u14, 0, none⟩ 0 [.string u15, .int .i64 u16] ∧
  nw ro σ (.cells #[.string u15, .int .i64 u16] 175) fun u17 σ =>
  awp prog ro (Builtin.append_ #[92, 92] 92 #[Sl.v u1, Sl.v (⟨some ⟨u17, 0, none⟩, 1, 1⟩ : Sl)]) (fun v σ => ∃ (u18 : Sl), v = Sl.v u18 ∧
  ∃ p19, a5.a = some p19 ∧ (0 : Int) ≤ u3 ∧ u3 < (a5.len : Int) ∧
  ∃ u20, acell ro σ (p19.add (Int.toNat u3 * 6)) = some (.int .i64 u20) ∧
  if u20 = 1 then
   ∃ u21, acell ro σ ⟨u14, 0, none⟩ = some (.string u21) ∧
   nw ro σ (.cells #[.int .i64 1, .string u21] 180) fun u22 σ =>
   awp prog ro (Builtin.append_ #[93, 93] 93 #[Sl.v u2, Sl.v (⟨some ⟨u22, 0, none⟩, 1, 1⟩ : Sl)]) (fun v σ => ∃ (u23 : Sl), v = Sl.v u23 ∧
   j9_ref08_Apply B ro a0 a1 a2 a3 a4 a5 u3 u0 Q Y5 u18 u23 σ) σ
  else
  ∃ p24, a5.a = some p24 ∧ (0 : Int) ≤ u3 ∧ u3 < (a5.len : Int) ∧
  ∃ u25, acell ro σ (p24.add (Int.toNat u3 * 6)) = some (.int .i64 u25) ∧
  if u25 < 4 then
   ∃ p26, a5.a = some p26 ∧ (0 : Int) ≤ u3 ∧ u3 < (a5.len : Int) ∧
   ∃ p27, a5.a = some p27 ∧ (0 : Int) ≤ u3 ∧ u3 < (a5.len : Int) ∧
   ∃ u28, acell ro σ (p26.add (Int.toNat u3 * 6)) = some (.int .i64 u28) ∧
   ∃ u29, acell ro σ ((p27.add (Int.toNat u3 * 6)).add 1) = some (.string u29) ∧
   nw ro σ (.cells #[.int .i64 u28, .string u29] 180) fun u30 σ =>
   awp prog ro (Builtin.append_ #[93, 93] 93 #[Sl.v u2, Sl.v (⟨some ⟨u30, 0, none⟩, 1, 1⟩ : Sl)]) (fun v σ => ∃ (u31 : Sl), v = Sl.v u31 ∧
   j9_ref08_Apply B ro a0 a1 a2 a3 a4 a5 u3 u0 Q Y5 u18 u31 σ) σ
  else
  j9_ref08_Apply B ro a0 a1 a2 a3 a4 a5 u3 u0 Q Y5 u18 u2 σ) σ) [.string u11, .int .i64 u12] 0 σ
 else
 j2_ref08_Apply B ro u0 Q u1 u2 σ
def f_ref08_Apply (B : World) (ro : AH) (a0 : Option Addr) (a1 : ByteArray) (a2 : Int) (a3 : Int) (a4 : Int) (a5 : Sl) (σ : AH) (Q : Option Addr → Sl → Sl → Int → Int → AH → Prop) : Prop :=
 if ((a5.len : Int) < 1) ∨ (16 < (a5.len : Int)) then
 Q a0 (⟨none, 0, 0⟩ : Sl) (⟨none, 0, 0⟩ : Sl) 0 80 σ
 else
 if (a2 < 1) ∨ (4611686018427387903 < a2) then
 Q a0 (⟨none, 0, 0⟩ : Sl) (⟨none, 0, 0⟩ : Sl) 0 10 σ
 else
 c_ref07_Tree_Copy B ro a0 σ fun u0 σ =>
 lfpD (l5_ref08_Apply B ro a0 a1 a2 a3 a4 a5 u0 Q ) ((⟨none, 0, 0⟩ : Sl), (⟨none, 0, 0⟩ : Sl), 0) σ
theorem ref08_Apply_ok {a0 : Option Addr} {a1 : ByteArray} {a2 : Int} {a3 : Int} {a4 : Int} {a5 : Sl} {Q : Option Addr → Sl → Sl → Int → Int → AH → Prop} (h : Sep ro σ → f_ref08_Apply B ro a0 a1 a2 a3 a4 a5 σ Q) : c_ref08_Apply B ro a0 a1 a2 a3 a4 a5 σ Q := by
 refine zb h func41 ntmps41 fun h => ?_; unfold f_ref08_Apply at h; refine z3 ?_; iterate 5 refine zp ?_
 refine z2 (AW.seq (z3 ?_))
 refine zp ?_; refine zm (V_lenL rfl rfl underlying96 rfl rfl) ?_; iterate 2 refine zp ?_
 refine Lsplit 4 (decide ((a5.len : Int) < 1)) [(0, .pointer a0), (1, .string a1), (2, .int .i64 a2), (3, .int .i64 a3), (4, .int .i64 a4), (5, Sl.v a5), (30, .bool ((decide ((a5.len : Int) < 1)) || (decide (16 < (a5.len : Int)))))] ?_ ?_ ?_
 ·intro e3 hk3
  iterate 3 refine zn e3 ?_
  refine zk e3 ?_; exact hk3 _ (Fe e3)
 ·intro e3 hk3
  refine zy e3 ?_; refine Lypb (V_lenL rfl rfl underlying96 rfl rfl) rfl rfl rfl rfl e3 ?_
  refine zy e3 ?_; refine zk e3 ?_; exact hk3 _ (Fe e3)
 intro fr hl
 refine Lfr hl ?_
 refine z2 ?_; refine AW.iff rfl (bor_iff decide_eq_true_iff decide_eq_true_iff) h (fun h => ?_) (fun h => ?_)
 ·refine z3 ?_; iterate 6 refine zp ?_
  refine z2 ?_; refine AW.ret ?_; refine thenR ?_; exact bRM results41 (rCons (rTmp rfl) (rCons (rTmp rfl) (rCons (rTmp rfl) (rCons (rTmp rfl) (rCons (rTmp rfl) rNil))))) ⟨_, _, _, _, _, rfl, h⟩
 refine AW.skip ?_; refine thenN (AW.seq (z3 ?_)); iterate 3 refine zp ?_
 refine Lsplit 3 (decide (a2 < 1)) [(0, .pointer a0), (1, .string a1), (2, .int .i64 a2), (3, .int .i64 a3), (4, .int .i64 a4), (5, Sl.v a5), (37, .bool ((decide (a2 < 1)) || (decide (4611686018427387903 < a2))))] ?_ ?_ ?_
 ·intro e2 hk2
  iterate 2 refine zn e2 ?_
  refine zk e2 ?_; exact hk2 _ (Fe e2)
 ·intro e2 hk2
  refine zy e2 ?_; refine zy e2 ?_; refine zk e2 ?_; exact hk2 _ (Fe e2)
 intro fr hl
 refine Lfr hl ?_
 refine z2 ?_; refine AW.iff rfl (bor_iff decide_eq_true_iff decide_eq_true_iff) h (fun h => ?_) (fun h => ?_)
 ·refine z3 ?_; iterate 6 refine zp ?_
  refine z2 ?_; refine AW.ret ?_; refine thenR ?_; exact bRM results41 (rCons (rTmp rfl) (rCons (rTmp rfl) (rCons (rTmp rfl) (rCons (rTmp rfl) (rCons (rTmp rfl) rNil))))) ⟨_, _, _, _, _, rfl, h⟩
 refine AW.skip ?_; refine thenN (z3 ?_); refine zp ?_; refine zc func98 h ?_; rintro v σ ⟨u0, rfl, h⟩; refine zp ?_; refine z4 ?_; refine zp ?_; refine z4 ?_; refine zp ?_; refine z2 ?_; refine AW.seqJ (fun fr σ => ∃ (u1 : Sl) (u2 : Sl), FrLe [(17, .pointer u0), (18, Sl.v u1), (19, Sl.v u2)] fr ∧ j2_ref08_Apply B ro u0 Q u1 u2 σ) ?_ ?_
 ·rintro fr σ ⟨u1, u2, hl, h⟩; refine AW.weaken ?_ hl (HLe.refl _)
  unfold j2_ref08_Apply at h; refine z3 ?_; iterate 8 refine zp ?_
  refine z2 ?_; refine AW.ret ?_; exact bRM results41 (rCons (rTmp rfl) (rCons (rTmp rfl) (rCons (rTmp rfl) (rCons (rTmp rfl) (rCons (rTmp rfl) rNil))))) ⟨_, _, _, _, _, rfl, h⟩
 refine z3 ?_; refine zp ?_; refine z2 (AW.block ?_)
 refine ARound.loop (fr' := [(0, .pointer a0), (1, .string a1), (2, .int .i64 a2), (3, .int .i64 a3), (4, .int .i64 a4), (5, Sl.v a5), (17, .pointer u0), (18, Sl.v (⟨none, 0, 0⟩ : Sl)), (19, Sl.v (⟨none, 0, 0⟩ : Sl)), (20, .int .i64 0)]) ?_ FL
 refine h (fun ⟨u3, u4, u5⟩ σ => ARound _ _ _ _ _ _ [(0, .pointer a0), (1, .string a1), (2, .int .i64 a2), (3, .int .i64 a3), (4, .int .i64 a4), (5, Sl.v a5), (17, .pointer u0), (18, Sl.v u3), (19, Sl.v u4), (20, .int .i64 u5)] σ) ?_
 rintro ⟨u3, u4, u5⟩ σ Y5 hY5 h
 show AW _ _ _ _ _ _ _ _
 unfold l5_ref08_Apply at h; dsimp only at h; refine AW.seq (z3 ?_); iterate 2 refine zp ?_
 refine zm (V_lenL rfl rfl underlying96 rfl rfl) ?_; refine zp ?_; refine z2 ?_; refine zi h (fun h => ?_) fun h => ?_
 rotate_left
 ·refine AW.exit ?_; refine thenE (thenE ?_); refine blockE ?_
  refine thenN ?_; exact ⟨_, _, FL, h⟩
 refine AW.skip ?_; refine thenN ?_; refine AW.seqJ (fun fr σ => ∃ (u6 : Sl) (u7 : Sl), FrLe [(0, .pointer a0), (1, .string a1), (2, .int .i64 a2), (3, .int .i64 a3), (4, .int .i64 a4), (5, Sl.v a5), (17, .pointer u0), (20, .int .i64 u5), (18, Sl.v u6), (19, Sl.v u7)] fr ∧ j9_ref08_Apply B ro a0 a1 a2 a3 a4 a5 u5 u0 Q Y5 u6 u7 σ) ?_ ?_
 ·rintro fr σ ⟨u6, u7, hl, h⟩; refine AW.weaken ?_ hl (HLe.refl _)
  unfold j9_ref08_Apply at h; refine AW.reg ?_; iterate 3 refine zp ?_
  refine z2 ?_; refine ARound.head (fr' := [(0, .pointer a0), (1, .string a1), (2, .int .i64 a2), (3, .int .i64 a3), (4, .int .i64 a4), (5, Sl.v a5), (17, .pointer u0), (18, Sl.v u6), (19, Sl.v u7), (20, .int .i64 (i64.wrap (u5 + 1)))]) ?_ FL
  exact hY5 _ _ h
 refine AW.block (z3 ?_); iterate 7 refine zp ?_
 obtain ⟨p8, ha, h0, h1, h⟩ := h
 refine zm (V_ixA rfl underlying96 ty179 (ixL rfl ha) rfl h0 h1) ?_; obtain ⟨u9, u10, u11, u12, u13, u14, hc, h⟩ := h
 refine zl (X_lda rfl underlying179 rfl ty179 rfl hc ?_)
 refine zc func99 h ?_; rintro v σ ⟨u15, u16, u17, rfl, h⟩; iterate 3 refine zp ?_
 refine zA (A_alloc rfl ty175) h fun u18 h => ?_; refine zs ty175 h fun σ h => ?_; refine zp ?_; refine z2 (AW.seq (z3 ?_))
 iterate 2 refine zp ?_
 refine z2 ?_; refine AW.iff rfl (bnot_iff decide_eq_true_iff) h (fun h => ?_) (fun h => ?_)
 ·refine z3 ?_; iterate 8 refine zp ?_
  refine z2 ?_; refine AW.ret ?_; refine thenR (blockR (thenR (thenR (blockR (thenR ?_))))); exact bRM results41 (rCons (rTmp rfl) (rCons (rTmp rfl) (rCons (rTmp rfl) (rCons (rTmp rfl) (rCons (rTmp rfl) rNil))))) ⟨_, _, _, _, _, rfl, h⟩
 refine AW.skip ?_; refine thenN (z3 ?_); refine zp ?_; obtain ⟨u19, u20, hc, h⟩ := h
 refine zl (X_lda rfl underlying175 rfl ty175 rfl hc ?_)
 refine zA (A_bsl (vs := [(0, .agg #[.string u19, .int .i64 u20])]) (cs := #[.string u19, .int .i64 u20]) rfl underlying92 ty175 (by decide) rfl rfl) h fun u21 h => ?_; refine zl (X_bi (s := Builtin.append_ #[92, 92] 92 #[Sl.v u3, Sl.v (⟨some ⟨u21, 0, none⟩, 1, 1⟩ : Sl)]) rfl rfl (fun _ => rfl) (awp_mono _ h ?_))
 rintro v σ ⟨u22, rfl, h⟩; refine zp ?_; refine z4 ?_; iterate 2 refine zp ?_
 obtain ⟨p23, ha, h0, h1, h⟩ := h
 refine zm (V_ixA rfl underlying96 ty179 (ixL rfl ha) rfl h0 h1) ?_; refine zf underlying179 ty3 ?_; refine zL underlying3 h fun u24 h => ?_; refine zp ?_; refine z2 ?_; refine zi h (fun h => ?_) fun h => ?_
 ·refine AW.reg ?_; refine zp ?_; refine zf underlying175 ty9 ?_; refine zL underlying9 h fun u25 h => ?_; refine zm (V_bld (vs := [(0, .int .i64 1), (1, .string u25)]) (cs := #[.int .i64 1, .string u25]) rfl underlying180 ty180 pl180 rfl rfl) ?_; refine zA (A_bsl (vs := [(0, .agg #[.int .i64 1, .string u25])]) (cs := #[.int .i64 1, .string u25]) rfl underlying93 ty180 (by decide) rfl rfl) h fun u26 h => ?_
  refine zl (X_bi (s := Builtin.append_ #[93, 93] 93 #[Sl.v u4, Sl.v (⟨some ⟨u26, 0, none⟩, 1, 1⟩ : Sl)]) rfl rfl (fun _ => rfl) (awp_mono _ h ?_))
  rintro v σ ⟨u27, rfl, h⟩; refine zp ?_; refine Lnil (blockN (thenN ?_)); exact ⟨_, _, FL, h⟩
 refine z3 ?_; iterate 2 refine zp ?_
 obtain ⟨p28, ha, h0, h1, h⟩ := h
 refine zm (V_ixA rfl underlying96 ty179 (ixL rfl ha) rfl h0 h1) ?_; refine zf underlying179 ty3 ?_; refine zL underlying3 h fun u29 h => ?_; refine zp ?_; refine z2 ?_; refine zi h (fun h => ?_) fun h => ?_
 rotate_left
 ·refine AW.skip ?_; refine blockN (thenN ?_); exact ⟨_, _, FL, h⟩
 refine AW.drawn0 (fun i => ([0, 0, 0, 0, 0, 3, 0, 0, 0, 0, 3, 0, 1, 2, 0] : List Nat).getD i 2) [(5, 11), (5, 12), (5, 13), (10, 11), (10, 12), (10, 13)] [0, 1, 2, 3, 4, 6, 7, 8, 9, 5, 10, 11, 12, 13, 14] mixed (by decide +kernel) ?_
 iterate 3 refine zq ?_
 obtain ⟨p30, ha, h0, h1, h⟩ := h
 refine Dp rfl rfl rfl rfl (V_ixA rfl underlying96 ty179 (ixL rfl ha) rfl h0 h1) ?_
 refine zg underlying179 ty3 ?_; iterate 2 refine zq ?_
 obtain ⟨p31, ha, h0, h1, h⟩ := h
 refine Dp rfl rfl rfl rfl (V_ixA rfl underlying96 ty179 (ixL rfl ha) rfl h0 h1) ?_
 refine zg underlying179 ty9 ?_; obtain ⟨u32, hc, h⟩ := h
 refine Dr rfl rfl rfl rfl (R_ld rfl underlying3 rfl rfl hc) ?_
 obtain ⟨u33, hc, h⟩ := h
 refine Dr rfl rfl rfl rfl (R_ld rfl underlying9 rfl rfl hc) ?_
 refine Dp rfl rfl rfl rfl (V_bld (vs := [(0, .int .i64 u32), (1, .string u33)]) (cs := #[.int .i64 u32, .string u33]) rfl underlying180 ty180 pl180 rfl rfl) ?_
 refine Da rfl rfl rfl rfl (A_bsl (vs := [(0, .agg #[.int .i64 u32, .string u33])]) (cs := #[.int .i64 u32, .string u33]) rfl underlying93 ty180 (by decide) rfl rfl) fun u34 g1 g2 => ?_
 replace h := h u34 g1 g2
 refine Dg rfl rfl rfl rfl (X_bi (s := Builtin.append_ #[93, 93] 93 #[Sl.v u4, Sl.v (⟨some ⟨u34, 0, none⟩, 1, 1⟩ : Sl)]) rfl rfl (fun _ => rfl) (awp_mono _ h ?_))
 rintro v σ ⟨u35, rfl, h⟩; refine zq ?_; refine Dend ?_
 refine blockN (thenN ?_); exact ⟨_, _, FL, h⟩
def j2_ref08_Sweep (B : World) (ro : AH) (Q : Sl → AH → Prop) (u0 : Sl) (σ : AH) : Prop :=
 Q u0 σ
def j7_ref08_Sweep (B : World) (ro : AH) (a0 : Option Addr) (a1 : ByteArray) (u0 : Int) (u1 : Sl) (Q : Sl → AH → Prop) (Y4 : (Sl × Int) → AH → Prop) (u2 : Sl) (σ : AH) : Prop :=
 Y4 (u2, i64.wrap (u0 - 1)) σ
def j12_ref08_Sweep (B : World) (ro : AH) (a0 : Option Addr) (a1 : ByteArray) (u0 : Sl) (u1 : Int) (u2 : Sl) (Q : Sl → AH → Prop) (Y4 : (Sl × Int) → AH → Prop) (u3 : Bool) (σ : AH) : Prop :=
 if u3 = true then
 ∃ p4, u2.a = some p4 ∧ (0 : Int) ≤ u1 ∧ u1 < (u2.len : Int) ∧
 ∃ u5, acell ro σ (p4.add (Int.toNat u1 * 1)) = some (.string u5) ∧
 nw ro σ (.cells #[.int .i64 2, .string u5] 180) fun u6 σ =>
 awp prog ro (Builtin.append_ #[93, 93] 93 #[Sl.v u0, Sl.v (⟨some ⟨u6, 0, none⟩, 1, 1⟩ : Sl)]) (fun v σ => ∃ (u7 : Sl), v = Sl.v u7 ∧
  j7_ref08_Sweep B ro a0 a1 u1 u2 Q Y4 u7 σ) σ
 else
 j7_ref08_Sweep B ro a0 a1 u1 u2 Q Y4 u0 σ
def l4_ref08_Sweep (B : World) (ro : AH) (a0 : Option Addr) (a1 : ByteArray) (u0 : Sl) (Q : Sl → AH → Prop) : (Sl × Int) → AH → ((Sl × Int) → AH → Prop) → Prop := fun ⟨u1, u2⟩ σ Y4 =>
 if 0 ≤ u2 then
 ∃ p3, u0.a = some p3 ∧ (0 : Int) ≤ u2 ∧ u2 < (u0.len : Int) ∧
 ∃ u4, acell ro σ (p3.add (Int.toNat u2 * 1)) = some (.string u4) ∧
 c_ref08_home B ro u4 σ fun u5 σ =>
 if u5 = a1 then
  ∃ p6, u0.a = some p6 ∧ (0 : Int) ≤ u2 ∧ u2 < (u0.len : Int) ∧
  ∃ u7, acell ro σ (p6.add (Int.toNat u2 * 1)) = some (.string u7) ∧
  c_ref07_Tree_Delete B ro a0 u7 (-1) σ fun u8 σ =>
  j12_ref08_Sweep B ro a0 a1 u1 u2 u0 Q Y4 (decide (u8 = 0)) σ
 else
 j12_ref08_Sweep B ro a0 a1 u1 u2 u0 Q Y4 false σ
 else
 j2_ref08_Sweep B ro Q u1 σ
def f_ref08_Sweep (B : World) (ro : AH) (a0 : Option Addr) (a1 : ByteArray) (a2 : Sl) (σ : AH) (Q : Sl → AH → Prop) : Prop :=
 c_ref07_Tree_Owned B ro a0 a2 σ fun u0 σ =>
 lfpD (l4_ref08_Sweep B ro a0 a1 u0 Q ) ((⟨none, 0, 0⟩ : Sl), i64.wrap ((u0.len : Int) - 1)) σ
theorem ref08_Sweep_ok {a0 : Option Addr} {a1 : ByteArray} {a2 : Sl} {Q : Sl → AH → Prop} (h : Sep ro σ → f_ref08_Sweep B ro a0 a1 a2 σ Q) : c_ref08_Sweep B ro a0 a1 a2 σ Q := by
 refine zb h func46 ntmps46 fun h => ?_; unfold f_ref08_Sweep at h; refine z3 ?_; refine zp ?_; refine z4 ?_; refine zp ?_; refine z4 ?_; iterate 2 refine zp ?_
 refine zc func88 h ?_; rintro v σ ⟨u0, rfl, h⟩; refine zp ?_; refine z2 ?_; refine AW.seqJ (fun fr σ => ∃ (u1 : Sl), FrLe [(7, Sl.v u1)] fr ∧ j2_ref08_Sweep B ro Q u1 σ) ?_ ?_
 ·rintro fr σ ⟨u1, hl, h⟩; refine AW.weaken ?_ hl (HLe.refl _)
  unfold j2_ref08_Sweep at h; refine z3 ?_; iterate 2 refine zp ?_
  refine z2 ?_; refine AW.ret ?_; exact bR1 results46 rfl ⟨_, rfl, h⟩
 refine z3 ?_; refine zp ?_; refine zm (V_lenL rfl rfl underlying25 rfl rfl) ?_; iterate 2 refine zp ?_
 refine z2 (AW.block ?_)
 refine ARound.loop (fr' := [(0, .pointer a0), (1, .string a1), (8, Sl.v u0), (7, Sl.v (⟨none, 0, 0⟩ : Sl)), (9, .int .i64 (i64.wrap ((u0.len : Int) - 1)))]) ?_ FL
 refine h (fun ⟨u2, u3⟩ σ => ARound _ _ _ _ _ _ [(0, .pointer a0), (1, .string a1), (8, Sl.v u0), (7, Sl.v u2), (9, .int .i64 u3)] σ) ?_
 rintro ⟨u2, u3⟩ σ Y4 hY4 h
 show AW _ _ _ _ _ _ _ _
 unfold l4_ref08_Sweep at h; dsimp only at h; refine AW.seq (z3 ?_); iterate 2 refine zp ?_
 refine z2 ?_; refine zi h (fun h => ?_) fun h => ?_
 rotate_left
 ·refine AW.exit ?_; refine thenE (thenE ?_); refine blockE ?_
  refine thenN ?_; exact ⟨_, FL, h⟩
 refine AW.skip ?_; refine thenN ?_; refine AW.seqJ (fun fr σ => ∃ (u4 : Sl), FrLe [(0, .pointer a0), (1, .string a1), (8, Sl.v u0), (9, .int .i64 u3), (7, Sl.v u4)] fr ∧ j7_ref08_Sweep B ro a0 a1 u3 u0 Q Y4 u4 σ) ?_ ?_
 ·rintro fr σ ⟨u4, hl, h⟩; refine AW.weaken ?_ hl (HLe.refl _)
  unfold j7_ref08_Sweep at h; refine AW.reg ?_; iterate 3 refine zp ?_
  refine z2 ?_; refine ARound.head (fr' := [(0, .pointer a0), (1, .string a1), (8, Sl.v u0), (7, Sl.v u4), (9, .int .i64 (i64.wrap (u3 - 1)))]) ?_ FL
  exact hY4 _ _ h
 refine AW.block (z3 ?_); iterate 2 refine zp ?_
 obtain ⟨p5, ha, h0, h1, h⟩ := h
 refine zm (V_ixA rfl underlying25 ty9 (ixL rfl ha) rfl h0 h1) ?_; refine zL underlying9 h fun u6 h => ?_; refine zc func102 h ?_; rintro v σ ⟨u7, rfl, h⟩; iterate 3 refine zp ?_
 refine LsplitJ 8 (decide (u7 = a1)) decide_eq_true_iff h (fun fr σ => ∃ (u8 : Bool), FrLe [(0, .pointer a0), (1, .string a1), (7, Sl.v u2), (8, Sl.v u0), (9, .int .i64 u3), (35, .bool u8)] fr ∧ j12_ref08_Sweep B ro a0 a1 u2 u3 u0 Q Y4 u8 σ) ?_ ?_ ?_
 ·intro h e7 hk7; refine zy e7 ?_; refine zy e7 ?_; refine zy e7 ?_; obtain ⟨p9, ha, h0, h1, h⟩ := h
  refine Lypb (V_ixA rfl underlying25 ty9 (ixL rfl ha) rfl h0 h1) rfl rfl rfl rfl e7 ?_
  obtain ⟨u10, hc, h⟩ := h
  refine Lyb rfl rfl rfl rfl e7 (X_ld rfl underlying9 rfl rfl hc ?_)
  refine Lyb rfl rfl rfl rfl e7 (X_call rfl func33 rfl rfl rfl (ACalls.mono h ?_))
  rintro v σ ⟨u11, rfl, h⟩; refine zy e7 ?_; refine zk e7 ?_; exact hk7 _ _ ⟨_, FL, h⟩
 ·intro h e7 hk7; iterate 7 refine zn e7 ?_
  refine zk e7 ?_; exact hk7 _ _ ⟨_, FL, h⟩
 rintro fr σ ⟨u8, hl, h⟩; unfold j12_ref08_Sweep at h; refine Lfr hl ?_
 refine z2 ?_; refine zj h (fun h => ?_) fun h => ?_
 rotate_left
 ·refine AW.skip ?_; refine blockN (thenN ?_); exact ⟨_, FL, h⟩
 refine AW.reg ?_; iterate 3 refine zp ?_
 obtain ⟨p12, ha, h0, h1, h⟩ := h
 refine zm (V_ixA rfl underlying25 ty9 (ixL rfl ha) rfl h0 h1) ?_; refine zL underlying9 h fun u13 h => ?_; refine zm (V_bld (vs := [(0, .int .i64 2), (1, .string u13)]) (cs := #[.int .i64 2, .string u13]) rfl underlying180 ty180 pl180 rfl rfl) ?_; refine zA (A_bsl (vs := [(0, .agg #[.int .i64 2, .string u13])]) (cs := #[.int .i64 2, .string u13]) rfl underlying93 ty180 (by decide) rfl rfl) h fun u14 h => ?_
 refine zl (X_bi (s := Builtin.append_ #[93, 93] 93 #[Sl.v u2, Sl.v (⟨some ⟨u14, 0, none⟩, 1, 1⟩ : Sl)]) rfl rfl (fun _ => rfl) (awp_mono _ h ?_))
 rintro v σ ⟨u15, rfl, h⟩; refine zp ?_; refine Lnil (blockN (thenN ?_)); exact ⟨_, FL, h⟩
def j1_ref08_Usage (B : World) (ro : AH) (Q : Int → Int → AH → Prop) (u0 : Int) (u1 : Int) (σ : AH) : Prop :=
 Q u0 u1 σ
def j10_ref08_Usage (B : World) (ro : AH) (a0 : Option Addr) (a1 : ByteArray) (u0 : Int) (Q : Int → Int → AH → Prop) (Y4 : (Int × Int × Int) → AH → Prop) (u1 : Int) (u2 : Int) (σ : AH) : Prop :=
 Y4 (u1, u2, i64.wrap (u0 + 1)) σ
def j17_ref08_Usage (B : World) (ro : AH) (a0 : Option Addr) (a1 : ByteArray) (u0 : Int) (u1 : Int) (u2 : Int) (u3 : ByteArray) (Q : Int → Int → AH → Prop) (Y4 : (Int × Int × Int) → AH → Prop) (u4 : Bool) (σ : AH) : Prop :=
 if u4 = true then
 ∃ p5, a0 = some p5 ∧
 ∃ u6, acell ro σ p5 = some (Sl.v u6) ∧
 ∃ p7, u6.a = some p7 ∧ (0 : Int) ≤ u2 ∧ u2 < (u6.len : Int) ∧
 ∃ u8, acell ro σ ((p7.add (Int.toNat u2 * 5)).add 1) = some (Sl.v u8) ∧
 j10_ref08_Usage B ro a0 a1 u2 Q Y4 (i64.wrap (u0 + 1)) (i64.wrap (u1 + (i64.wrap ((u3.size : Int) + (u8.len : Int))))) σ
 else
 j10_ref08_Usage B ro a0 a1 u2 Q Y4 u0 u1 σ
def l4_ref08_Usage (B : World) (ro : AH) (a0 : Option Addr) (a1 : ByteArray) (Q : Int → Int → AH → Prop) : (Int × Int × Int) → AH → ((Int × Int × Int) → AH → Prop) → Prop := fun ⟨u0, u1, u2⟩ σ Y4 =>
 ∃ p3, a0 = some p3 ∧
 ∃ u4, acell ro σ p3 = some (Sl.v u4) ∧
 if u2 < (u4.len : Int) then
 ∃ p5, a0 = some p5 ∧
 ∃ u6, acell ro σ p5 = some (Sl.v u6) ∧
 ∃ p7, u6.a = some p7 ∧ (0 : Int) ≤ u2 ∧ u2 < (u6.len : Int) ∧
 ∃ u8, acell ro σ (p7.add (Int.toNat u2 * 5)) = some (.string u8) ∧
 if ¬ (u8 = (⟨#[47]⟩ : ByteArray)) then
  c_ref08_home B ro u8 σ fun u9 σ =>
  j17_ref08_Usage B ro a0 a1 u0 u1 u2 u8 Q Y4 (decide (u9 = a1)) σ
 else
 j17_ref08_Usage B ro a0 a1 u0 u1 u2 u8 Q Y4 false σ
 else
 j1_ref08_Usage B ro Q u0 u1 σ
def f_ref08_Usage (B : World) (ro : AH) (a0 : Option Addr) (a1 : ByteArray) (σ : AH) (Q : Int → Int → AH → Prop) : Prop :=
 lfpD (l4_ref08_Usage B ro a0 a1 Q ) (0, 0, 0) σ
theorem ref08_Usage_ok {a0 : Option Addr} {a1 : ByteArray} {Q : Int → Int → AH → Prop} (h : Sep ro σ → f_ref08_Usage B ro a0 a1 σ Q) : c_ref08_Usage B ro a0 a1 σ Q := by
 refine zb h func47 ntmps47 fun h => ?_; unfold f_ref08_Usage at h; refine z3 ?_; iterate 2 refine zp ?_
 refine z4 ?_; iterate 2 refine zp ?_
 refine z2 ?_; refine AW.seqJ (fun fr σ => ∃ (u0 : Int) (u1 : Int), FrLe [(6, .int .i64 u0), (7, .int .i64 u1)] fr ∧ j1_ref08_Usage B ro Q u0 u1 σ) ?_ ?_
 ·rintro fr σ ⟨u0, u1, hl, h⟩; refine AW.weaken ?_ hl (HLe.refl _)
  unfold j1_ref08_Usage at h; refine z3 ?_; iterate 4 refine zp ?_
  refine z2 ?_; refine AW.ret ?_; exact bR2 results47 rfl rfl ⟨_, _, rfl, h⟩
 refine z3 ?_; refine zp ?_; refine z2 (AW.block ?_)
 refine ARound.loop (fr' := [(0, .pointer a0), (1, .string a1), (6, .int .i64 0), (7, .int .i64 0), (8, .int .i64 0)]) ?_ FL
 refine h (fun ⟨u2, u3, u4⟩ σ => ARound _ _ _ _ _ _ [(0, .pointer a0), (1, .string a1), (6, .int .i64 u2), (7, .int .i64 u3), (8, .int .i64 u4)] σ) ?_
 rintro ⟨u2, u3, u4⟩ σ Y4 hY4 h
 show AW _ _ _ _ _ _ _ _
 unfold l4_ref08_Usage at h; dsimp only at h; refine AW.seq (z3 ?_); iterate 2 refine zp ?_
 refine zN h fun p5 h => ?_; refine zf underlying157 ty155 ?_; refine zL underlying155 h fun u6 h => ?_; refine zm (V_lenL rfl rfl underlying155 rfl rfl) ?_; refine zp ?_; refine z2 ?_; refine zi h (fun h => ?_) fun h => ?_
 rotate_left
 ·refine AW.exit ?_; refine thenE (thenE ?_); refine blockE ?_
  refine thenN ?_; exact ⟨_, _, FL, h⟩
 refine AW.skip ?_; refine thenN ?_; refine AW.seqJ (fun fr σ => ∃ (u7 : Int) (u8 : Int), FrLe [(0, .pointer a0), (1, .string a1), (8, .int .i64 u4), (6, .int .i64 u7), (7, .int .i64 u8)] fr ∧ j10_ref08_Usage B ro a0 a1 u4 Q Y4 u7 u8 σ) ?_ ?_
 ·rintro fr σ ⟨u7, u8, hl, h⟩; refine AW.weaken ?_ hl (HLe.refl _)
  unfold j10_ref08_Usage at h; refine AW.reg ?_; iterate 3 refine zp ?_
  refine z2 ?_; refine ARound.head (fr' := [(0, .pointer a0), (1, .string a1), (6, .int .i64 u7), (7, .int .i64 u8), (8, .int .i64 (i64.wrap (u4 + 1)))]) ?_ FL
  exact hY4 _ _ h
 refine AW.block (z3 ?_); refine zp ?_; refine zN h fun p9 h => ?_; refine zf underlying157 ty155 ?_; refine zL underlying155 h fun u10 h => ?_; refine zp ?_; obtain ⟨p11, ha, h0, h1, h⟩ := h
 refine zm (V_ixA rfl underlying155 ty159 (ixL rfl ha) rfl h0 h1) ?_; refine zf underlying159 ty9 ?_; refine zL underlying9 h fun u12 h => ?_; refine zp ?_; refine z4 ?_; refine zp ?_; refine zm (V_neqS rfl rfl rfl) ?_; refine zp ?_; refine LsplitJ 5 (!(decide (u12 = (⟨#[47]⟩ : ByteArray)))) (bnot_iff decide_eq_true_iff) h (fun fr σ => ∃ (u13 : Bool), FrLe [(0, .pointer a0), (1, .string a1), (6, .int .i64 u2), (7, .int .i64 u3), (8, .int .i64 u4), (9, .string u12), (34, .bool u13)] fr ∧ j17_ref08_Usage B ro a0 a1 u2 u3 u4 u12 Q Y4 u13 σ) ?_ ?_ ?_
 ·intro h e2 hk2; refine zy e2 ?_; refine Lyb rfl rfl rfl rfl e2 (X_call rfl func102 rfl rfl rfl (ACalls.mono h ?_))
  rintro v σ ⟨u14, rfl, h⟩; refine zy e2 ?_; refine zy e2 ?_; refine zk e2 ?_; exact hk2 _ _ ⟨_, FL, h⟩
 ·intro h e2 hk2; iterate 4 refine zn e2 ?_
  refine zk e2 ?_; exact hk2 _ _ ⟨_, FL, h⟩
 rintro fr σ ⟨u13, hl, h⟩; unfold j17_ref08_Usage at h; refine Lfr hl ?_
 refine z2 ?_; refine zj h (fun h => ?_) fun h => ?_
 rotate_left
 ·refine AW.skip ?_; refine blockN (thenN ?_); exact ⟨_, _, FL, h⟩
 refine z3 ?_; iterate 3 refine zp ?_
 refine z2 (AW.reg ?_)
 iterate 2 refine zp ?_
 refine zm (V_lenS rfl rfl underlying9 rfl rfl) ?_; refine zp ?_; refine zN h fun p15 h => ?_; refine zf underlying157 ty155 ?_; refine zL underlying155 h fun u16 h => ?_; refine zp ?_; obtain ⟨p17, ha, h0, h1, h⟩ := h
 refine zm (V_ixA rfl underlying155 ty159 (ixL rfl ha) rfl h0 h1) ?_; refine zf underlying159 ty30 ?_; refine zL underlying30 h fun u18 h => ?_; refine zm (V_lenL rfl rfl underlying30 rfl rfl) ?_; iterate 3 refine zp ?_
 refine Lnil (blockN (thenN ?_)); exact ⟨_, _, FL, h⟩
def j19_ref08_one (B : World) (ro : AH) (u0 : Nat) (u1 : Nat) (Q : ByteArray → Int → Int → AH → Prop) (u2 : Int) (σ : AH) : Prop :=
 if ¬ (u2 = 0) then
 stN ⟨u0, 0, none⟩ (fun σ =>
  ∃ u3 u4, cellsAt ro σ ⟨u0, 0, none⟩ 0 [.string u3, .int .i64 u4] ∧
  Q u3 u4 u2 σ) [.string ByteArray.empty, .int .i64 0] 0 σ
 else
 ∃ u5 u6, cellsAt ro σ ⟨u1, 0, none⟩ 0 [.string u5, .int .i64 u6] ∧
 stN ⟨u0, 0, none⟩ (fun σ =>
 ∃ u7 u8, cellsAt ro σ ⟨u0, 0, none⟩ 0 [.string u7, .int .i64 u8] ∧
 Q u7 u8 0 σ) [.string u5, .int .i64 u6] 0 σ
def j24_ref08_one (B : World) (ro : AH) (a0 : Option Addr) (a1 : ByteArray) (a3 : Int) (a4 : Int) (u0 : Nat) (u1 : Nat) (u2 : Int) (Q : ByteArray → Int → Int → AH → Prop) (u3 : Bool) (σ : AH) : Prop :=
 if u3 = true then
 c_ref08_Usage B ro a0 a1 σ fun u4 u5 σ =>
 if (a3 < u4) ∨ (a4 < u5) then
  j19_ref08_one B ro u0 u1 Q 81 σ
 else
 j19_ref08_one B ro u0 u1 Q u2 σ
 else
 j19_ref08_one B ro u0 u1 Q u2 σ
def j29_ref08_one (B : World) (ro : AH) (a0 : Option Addr) (a1 : ByteArray) (a3 : Int) (a4 : Int) (u0 : Nat) (u1 : Nat) (u2 : Int) (Q : ByteArray → Int → Int → AH → Prop) (u3 : Bool) (σ : AH) : Prop :=
 j24_ref08_one B ro a0 a1 a3 a4 u0 u1 u2 Q u3 σ
def j17_ref08_one (B : World) (ro : AH) (a0 : Option Addr) (a1 : ByteArray) (a3 : Int) (a4 : Int) (u0 : Nat) (u1 : Nat) (u2 : Nat) (Q : ByteArray → Int → Int → AH → Prop) (u3 : Int) (σ : AH) : Prop :=
 if u3 = 0 then
 ∃ u4, acell ro σ ⟨u0, 0, none⟩ = some (.int .i64 u4) ∧
 if u4 = 1 then
  j29_ref08_one B ro a0 a1 a3 a4 u1 u2 u3 Q true σ
 else
 ∃ u5, acell ro σ ⟨u0, 0, none⟩ = some (.int .i64 u5) ∧
 j29_ref08_one B ro a0 a1 a3 a4 u1 u2 u3 Q (decide (u5 = 3)) σ
 else
 j24_ref08_one B ro a0 a1 a3 a4 u1 u2 u3 Q false σ
def j33_ref08_one (B : World) (ro : AH) (a0 : Option Addr) (a1 : ByteArray) (a3 : Int) (a4 : Int) (u0 : Nat) (u1 : Nat) (u2 : Nat) (Q : ByteArray → Int → Int → AH → Prop) (u3 : Int) (σ : AH) : Prop :=
 ∃ u4, acell ro σ ((⟨u0, 0, none⟩ : Addr).add 1) = some (.string u4) ∧
 ∃ u5, acell ro σ ((⟨u0, 0, none⟩ : Addr).add 2) = some (Sl.v u5) ∧
 ∃ u6, acell ro σ ((⟨u0, 0, none⟩ : Addr).add 5) = some (.bool u6) ∧
 c_ref07_Tree_Create B ro a0 u4 u5 u3 u6 σ fun u7 u8 σ =>
 stN ⟨u2, 0, none⟩ (fun σ =>
 j17_ref08_one B ro a0 a1 a3 a4 u0 u1 u2 Q u8 σ) [.string u7] 0 σ
def j56_ref08_one (B : World) (ro : AH) (a0 : Option Addr) (a1 : ByteArray) (a3 : Int) (a4 : Int) (u0 : Nat) (u1 : Nat) (u2 : Nat) (u3 : Int) (Q : ByteArray → Int → Int → AH → Prop) (u4 : Bool) (σ : AH) : Prop :=
 if u4 = true then
 j17_ref08_one B ro a0 a1 a3 a4 u0 u1 u2 Q 72 σ
 else
 j17_ref08_one B ro a0 a1 a3 a4 u0 u1 u2 Q u3 σ
def j54_ref08_one (B : World) (ro : AH) (a0 : Option Addr) (a1 : ByteArray) (a3 : Int) (a4 : Int) (u0 : Nat) (u1 : Nat) (u2 : Nat) (u3 : Nat) (u4 : Int) (Q : ByteArray → Int → Int → AH → Prop) (u5 : Bool) (σ : AH) : Prop :=
 if u5 = true then
 ∃ u6, acell ro σ ((⟨u0, 0, none⟩ : Addr).add 3) = some (.int .i64 u6) ∧
 ∃ u7, acell ro σ ((⟨u3, 0, none⟩ : Addr).add 2) = some (.int .i64 u7) ∧
 j56_ref08_one B ro a0 a1 a3 a4 u0 u1 u2 u4 Q (!(decide (u6 = u7))) σ
 else
 j56_ref08_one B ro a0 a1 a3 a4 u0 u1 u2 u4 Q false σ
def j13_ref08_one (B : World) (ro : AH) (a0 : Option Addr) (a1 : ByteArray) (a2 : Int) (a3 : Int) (a4 : Int) (u0 : Nat) (u1 : Nat) (Q : ByteArray → Int → Int → AH → Prop) (u2 : Bool) (σ : AH) : Prop :=
 if u2 = true then
 stN ⟨u1, 0, none⟩ (fun σ =>
  ∃ u3 u4, cellsAt ro σ ⟨u1, 0, none⟩ 0 [.string u3, .int .i64 u4] ∧
  Q u3 u4 82 σ) [.string ByteArray.empty, .int .i64 0] 0 σ
 else
 nw ro σ (.cells #[.string ByteArray.empty, .int .i64 0] 175) fun u5 σ =>
 stN ⟨u5, 0, none⟩ (fun σ =>
 ∃ u6, acell ro σ ⟨u0, 0, none⟩ = some (.int .i64 u6) ∧
 if u6 = 1 then
  ∃ u7, acell ro σ ((⟨u0, 0, none⟩ : Addr).add 4) = some (.bool u7) ∧
  if u7 = true then
  j33_ref08_one B ro a0 a1 a3 a4 u0 u1 u5 Q a2 σ
  else
  j33_ref08_one B ro a0 a1 a3 a4 u0 u1 u5 Q 0 σ
 else
 if u6 = 2 then
  ∃ u8, acell ro σ ((⟨u0, 0, none⟩ : Addr).add 1) = some (.string u8) ∧
  ∃ u9, acell ro σ ((⟨u0, 0, none⟩ : Addr).add 3) = some (.int .i64 u9) ∧
  c_ref07_Tree_Delete B ro a0 u8 u9 σ fun u10 σ =>
  j17_ref08_one B ro a0 a1 a3 a4 u0 u1 u5 Q u10 σ
 else
 if u6 = 3 then
  ∃ u11, acell ro σ ((⟨u0, 0, none⟩ : Addr).add 1) = some (.string u11) ∧
  ∃ u12, acell ro σ ((⟨u0, 0, none⟩ : Addr).add 2) = some (Sl.v u12) ∧
  ∃ u13, acell ro σ ((⟨u0, 0, none⟩ : Addr).add 3) = some (.int .i64 u13) ∧
  c_ref07_Tree_Set B ro a0 u11 u12 u13 σ fun u14 u15 σ =>
  stN ((⟨u5, 0, none⟩ : Addr).add 1) (fun σ =>
  j17_ref08_one B ro a0 a1 a3 a4 u0 u1 u5 Q u15 σ) [.int .i64 u14] 0 σ
 else
 if u6 = 4 then
  ∃ u16, acell ro σ ((⟨u0, 0, none⟩ : Addr).add 1) = some (.string u16) ∧
  c_ref07_Tree_Get B ro a0 u16 σ fun u17 u18 u19 u20 u21 u22 u23 σ =>
  nw ro σ (.cells #[.string ByteArray.empty, Sl.v (⟨none, 0, 0⟩ : Sl), .int .i64 0, .int .i64 0, .int .i64 0] 159) fun u24 σ =>
  stN ⟨u24, 0, none⟩ (fun σ =>
  if u23 = 0 then
   ∃ u25, acell ro σ ((⟨u0, 0, none⟩ : Addr).add 3) = some (.int .i64 u25) ∧
   j54_ref08_one B ro a0 a1 a3 a4 u0 u1 u5 u24 u23 Q (!(decide (u25 = (-1)))) σ
  else
  j54_ref08_one B ro a0 a1 a3 a4 u0 u1 u5 u24 u23 Q false σ) [.string u17, Sl.v u18, .int .i64 u19, .int .i64 u20, .int .i64 u21] 0 σ
 else
 j17_ref08_one B ro a0 a1 a3 a4 u0 u1 u5 Q 0 σ) [.string ByteArray.empty, .int .i64 0] 0 σ
def j61_ref08_one (B : World) (ro : AH) (a0 : Option Addr) (a1 : ByteArray) (a2 : Int) (a3 : Int) (a4 : Int) (u0 : Nat) (u1 : Nat) (u2 : Bool) (Q : ByteArray → Int → Int → AH → Prop) (u3 : Bool) (σ : AH) : Prop :=
 j13_ref08_one B ro a0 a1 a2 a3 a4 u0 u1 Q u3 σ
def j64_ref08_one (B : World) (ro : AH) (a0 : Option Addr) (a1 : ByteArray) (a2 : Int) (a3 : Int) (a4 : Int) (u0 : Nat) (u1 : Nat) (u2 : Sl) (u3 : Bool) (Q : ByteArray → Int → Int → AH → Prop) (u4 : Bool) (σ : AH) : Prop :=
 j61_ref08_one B ro a0 a1 a2 a3 a4 u0 u1 u3 Q u4 σ
def j11_ref08_one (B : World) (ro : AH) (a0 : Option Addr) (a1 : ByteArray) (a2 : Int) (a3 : Int) (a4 : Int) (u0 : Nat) (u1 : Nat) (u2 : Sl) (Q : ByteArray → Int → Int → AH → Prop) (u3 : Bool) (σ : AH) : Prop :=
 if u3 = true then
 j13_ref08_one B ro a0 a1 a2 a3 a4 u0 u1 Q true σ
 else
 if (u2.len : Int) = 1 then
 ∃ u4, acell ro σ ⟨u0, 0, none⟩ = some (.int .i64 u4) ∧
 if u4 = 1 then
  j64_ref08_one B ro a0 a1 a2 a3 a4 u0 u1 u2 u3 Q true σ
 else
 ∃ u5, acell ro σ ⟨u0, 0, none⟩ = some (.int .i64 u5) ∧
 j64_ref08_one B ro a0 a1 a2 a3 a4 u0 u1 u2 u3 Q (decide (u5 = 2)) σ
 else
 j61_ref08_one B ro a0 a1 a2 a3 a4 u0 u1 u3 Q false σ
def j4_ref08_one (B : World) (ro : AH) (a0 : Option Addr) (a1 : ByteArray) (a2 : Int) (a3 : Int) (a4 : Int) (u0 : Nat) (u1 : Nat) (Q : ByteArray → Int → Int → AH → Prop) (u2 : Bool) (σ : AH) : Prop :=
 if u2 = true then
 stN ⟨u1, 0, none⟩ (fun σ =>
  ∃ u3 u4, cellsAt ro σ ⟨u1, 0, none⟩ 0 [.string u3, .int .i64 u4] ∧
  Q u3 u4 80 σ) [.string ByteArray.empty, .int .i64 0] 0 σ
 else
 ∃ u5, acell ro σ ((⟨u0, 0, none⟩ : Addr).add 1) = some (.string u5) ∧
 c_ref02_Parts B ro u5 σ fun u6 u7 σ =>
 if ¬ (u7 = true) then
 stN ⟨u1, 0, none⟩ (fun σ =>
  ∃ u8 u9, cellsAt ro σ ⟨u1, 0, none⟩ 0 [.string u8, .int .i64 u9] ∧
  Q u8 u9 20 σ) [.string ByteArray.empty, .int .i64 0] 0 σ
 else
 if (u6.len : Int) = 0 then
 j11_ref08_one B ro a0 a1 a2 a3 a4 u0 u1 u6 Q true σ
 else
 ∃ p10, u6.a = some p10 ∧ (0 : Int) ≤ 0 ∧ 0 < (u6.len : Int) ∧
 ∃ u11, acell ro σ (p10.add (Int.toNat 0 * 1)) = some (.string u11) ∧
 j11_ref08_one B ro a0 a1 a2 a3 a4 u0 u1 u6 Q (!(decide (u11 = a1))) σ
def f_ref08_one (B : World) (ro : AH) (a0 : Option Addr) (a1 : ByteArray) (a2 : Int) (a3 : Int) (a4 : Int) (a5_0 : Int) (a5_1 : ByteArray) (a5_2 : Sl) (a5_3 : Int) (a5_4 : Bool) (a5_5 : Bool) (σ : AH) (Q : ByteArray → Int → Int → AH → Prop) : Prop :=
 nw ro σ (.cells #[.int .i64 a5_0, .string a5_1, Sl.v a5_2, .int .i64 a5_3, .bool a5_4, .bool a5_5] 179) fun u0 σ =>
 nw ro σ (.cells #[.string ByteArray.empty, .int .i64 0] 175) fun u1 σ =>
 ∃ u2, acell ro σ ⟨u0, 0, none⟩ = some (.int .i64 u2) ∧
 if u2 < 1 then
 j4_ref08_one B ro a0 a1 a2 a3 a4 u0 u1 Q true σ
 else
 ∃ u3, acell ro σ ⟨u0, 0, none⟩ = some (.int .i64 u3) ∧
 j4_ref08_one B ro a0 a1 a2 a3 a4 u0 u1 Q (decide (4 < u3)) σ
theorem ref08_one_ok {a0 : Option Addr} {a1 : ByteArray} {a2 : Int} {a3 : Int} {a4 : Int} {a5_0 : Int} {a5_1 : ByteArray} {a5_2 : Sl} {a5_3 : Int} {a5_4 : Bool} {a5_5 : Bool} {Q : ByteArray → Int → Int → AH → Prop} (h : Sep ro σ → f_ref08_one B ro a0 a1 a2 a3 a4 a5_0 a5_1 a5_2 a5_3 a5_4 a5_5 σ Q) : c_ref08_one B ro a0 a1 a2 a3 a4 a5_0 a5_1 a5_2 a5_3 a5_4 a5_5 σ Q := by
 refine zb h func99 ntmps99 fun h => ?_; unfold f_ref08_one at h; refine z3 ?_; refine zA (A_box rfl rfl) h fun u0 h => ?_; refine zA (A_alloc rfl ty175) h fun u1 h => ?_; refine zp ?_; refine z2 (AW.seq (z3 ?_))
 refine zf underlying179 ty3 ?_; refine zL underlying3 h fun u2 h => ?_; iterate 2 refine zp ?_
 refine LsplitJ 4 (decide (u2 < 1)) decide_eq_true_iff h (fun fr σ => ∃ (u3 : Bool), FrLe [(0, .pointer a0), (1, .string a1), (2, .int .i64 a2), (3, .int .i64 a3), (4, .int .i64 a4), (11, .pointer (some ⟨u0, 0, none⟩)), (12, .pointer (some ⟨u1, 0, none⟩)), (31, .bool u3)] fr ∧ j4_ref08_one B ro a0 a1 a2 a3 a4 u0 u1 Q u3 σ) ?_ ?_ ?_
 ·intro h e3 hk3; iterate 3 refine zn e3 ?_
  refine zk e3 ?_; exact hk3 _ _ ⟨_, FL, h⟩
 ·intro h e3 hk3; refine Lypb (V_fld rfl underlying179 rfl ty3 (by decide) rfl) rfl rfl rfl rfl e3 ?_
  obtain ⟨u4, hc, h⟩ := h
  refine Lyb rfl rfl rfl rfl e3 (X_ld rfl underlying3 rfl rfl hc ?_)
  refine zy e3 ?_; refine zk e3 ?_; exact hk3 _ _ ⟨_, FL, h⟩
 rintro fr σ ⟨u3, hl, h⟩; unfold j4_ref08_one at h; refine Lfr hl ?_
 refine z2 ?_; refine zj h (fun h => ?_) fun h => ?_
 ·refine z3 ?_; refine zm (V_bld (vs := []) (cs := #[.string ByteArray.empty, .int .i64 0]) rfl underlying175 ty175 pl175 rfl rfl) ?_; refine zs ty175 h fun σ h => ?_; refine zp ?_; refine z2 ?_; refine AW.ret ?_; refine thenR ?_; obtain ⟨u5, u6, hc0, h⟩ := h
  exact bRM results99 (rCons (rAgg rfl underlying175 rfl ty175 hc0) (rCons (rTmp rfl) rNil)) ⟨_, _, _, rfl, h⟩
 refine AW.skip ?_; refine thenN (z3 ?_); refine zf underlying179 ty9 ?_; refine zL underlying9 h fun u7 h => ?_; refine zc func64 h ?_; rintro v σ ⟨u8, u9, rfl, h⟩; iterate 5 refine zp ?_
 refine z2 (AW.seq (z3 ?_))
 iterate 2 refine zp ?_
 refine z2 ?_; refine AW.iff rfl (bnot_iff Iff.rfl) h (fun h => ?_) (fun h => ?_)
 ·refine z3 ?_; refine zm (V_bld (vs := []) (cs := #[.string ByteArray.empty, .int .i64 0]) rfl underlying175 ty175 pl175 rfl rfl) ?_; refine zs ty175 h fun σ h => ?_; refine zp ?_; refine z2 ?_; refine AW.ret ?_; refine thenR ?_; obtain ⟨u10, u11, hc0, h⟩ := h
  exact bRM results99 (rCons (rAgg rfl underlying175 rfl ty175 hc0) (rCons (rTmp rfl) rNil)) ⟨_, _, _, rfl, h⟩
 refine AW.skip ?_; refine thenN (AW.seq (z3 ?_)); refine zp ?_; refine zm (V_lenL rfl rfl underlying25 rfl rfl) ?_; iterate 2 refine zp ?_
 refine LsplitJ 6 (decide ((u8.len : Int) = 0)) decide_eq_true_iff h (fun fr σ => ∃ (u12 : Bool), FrLe [(0, .pointer a0), (1, .string a1), (2, .int .i64 a2), (3, .int .i64 a3), (4, .int .i64 a4), (11, .pointer (some ⟨u0, 0, none⟩)), (12, .pointer (some ⟨u1, 0, none⟩)), (14, Sl.v u8), (51, .bool u12)] fr ∧ j11_ref08_one B ro a0 a1 a2 a3 a4 u0 u1 u8 Q u12 σ) ?_ ?_ ?_
 ·intro h e3 hk3; iterate 5 refine zn e3 ?_
  refine zk e3 ?_; exact hk3 _ _ ⟨_, FL, h⟩
 ·intro h e3 hk3; refine zy e3 ?_; obtain ⟨p13, ha, h0, h1, h⟩ := h
  refine Lypb (V_ixA rfl underlying25 ty9 (ixL rfl ha) rfl h0 h1) rfl rfl rfl rfl e3 ?_
  obtain ⟨u14, hc, h⟩ := h
  refine Lyb rfl rfl rfl rfl e3 (X_ld rfl underlying9 rfl rfl hc ?_)
  refine zy e3 ?_; refine Lypb (V_neqS rfl rfl rfl) rfl rfl rfl rfl e3 ?_
  refine zk e3 ?_; exact hk3 _ _ ⟨_, FL, h⟩
 rintro fr σ ⟨u12, hl, h⟩; unfold j11_ref08_one at h; refine Lfr hl ?_
 refine zp ?_; refine LsplitJ 14 u12 Iff.rfl h (fun fr σ => ∃ (u15 : Bool), FrLe [(0, .pointer a0), (1, .string a1), (2, .int .i64 a2), (3, .int .i64 a3), (4, .int .i64 a4), (11, .pointer (some ⟨u0, 0, none⟩)), (12, .pointer (some ⟨u1, 0, none⟩)), (66, .bool u15)] fr ∧ j13_ref08_one B ro a0 a1 a2 a3 a4 u0 u1 Q u15 σ) ?_ ?_ ?_
 ·intro h e10 hk10; iterate 4 refine zn e10 ?_
  refine Ln rfl rfl rfl rfl (.inr rfl) ?_
  refine Ln rfl rfl rfl rfl (.inr rfl) ?_
  refine Ln rfl rfl rfl rfl (.inr rfl) ?_
  refine Ln rfl rfl rfl rfl (.inr rfl) ?_
  refine Ln rfl rfl rfl rfl (.inr rfl) ?_
  refine Ln rfl rfl rfl rfl (.inr rfl) ?_
  refine Ln rfl rfl rfl rfl (.inr rfl) ?_
  refine Ln rfl rfl rfl rfl (.inr rfl) ?_
  refine zn e10 ?_; refine zk e10 ?_; exact hk10 _ _ ⟨_, FL, h⟩
 ·intro h e10 hk10; refine zy e10 ?_; refine Lypb (V_lenL rfl rfl underlying25 rfl rfl) rfl rfl rfl rfl e10 ?_
  refine zy e10 ?_; refine zy e10 ?_; refine LsplitJ 9 (decide ((u8.len : Int) = 1)) decide_eq_true_iff h (fun fr σ => ∃ (u16 : Bool), FrLe [(0, .pointer a0), (1, .string a1), (2, .int .i64 a2), (3, .int .i64 a3), (4, .int .i64 a4), (11, .pointer (some ⟨u0, 0, none⟩)), (12, .pointer (some ⟨u1, 0, none⟩)), (52, .bool u12), (65, .bool u16)] fr ∧ j61_ref08_one B ro a0 a1 a2 a3 a4 u0 u1 u12 Q u16 σ) ?_ ?_ ?_
  ·intro h e14 hk14; refine Lypb (V_fld rfl underlying179 rfl ty3 (by decide) rfl) rfl rfl rfl rfl e14 ?_
   obtain ⟨u17, hc, h⟩ := h
   refine Lyb rfl rfl rfl rfl e14 (X_ld rfl underlying3 rfl rfl hc ?_)
   refine zy e14 ?_; refine zy e14 ?_; refine LsplitJ 4 (decide (u17 = 1)) decide_eq_true_iff h (fun fr σ => ∃ (u18 : Bool), FrLe [(0, .pointer a0), (1, .string a1), (2, .int .i64 a2), (3, .int .i64 a3), (4, .int .i64 a4), (11, .pointer (some ⟨u0, 0, none⟩)), (12, .pointer (some ⟨u1, 0, none⟩)), (52, .bool u12), (56, .bool (decide ((u8.len : Int) = 1))), (64, .bool u18)] fr ∧ j64_ref08_one B ro a0 a1 a2 a3 a4 u0 u1 u8 u12 Q u18 σ) ?_ ?_ ?_
   ·intro h e18 hk18; iterate 3 refine zn e18 ?_
    refine Lypb (V_pickT rfl (evb e18) rfl) rfl rfl rfl rfl e14 ?_
    exact hk18 _ _ ⟨_, FL, h⟩
   ·intro h e18 hk18; refine Lypb (V_fld rfl underlying179 rfl ty3 (by decide) rfl) rfl rfl rfl rfl e18 ?_
    obtain ⟨u19, hc, h⟩ := h
    refine Lyb rfl rfl rfl rfl e18 (X_ld rfl underlying3 rfl rfl hc ?_)
    refine zy e18 ?_; refine Lypb (V_pickF rfl (evb e18) rfl) rfl rfl rfl rfl e14 ?_
    exact hk18 _ _ ⟨_, FL, h⟩
   rintro fr σ ⟨u18, hl, h⟩; unfold j64_ref08_one at h; refine Lfr hl ?_
   refine Lypb (V_pickT rfl (evb e14) rfl) rfl rfl rfl rfl e10 ?_
   exact hk14 _ _ ⟨_, FL, h⟩
  ·intro h e14 hk14; iterate 4 refine zn e14 ?_
   refine Ln rfl rfl rfl rfl (.inr rfl) ?_
   refine Ln rfl rfl rfl rfl (.inr rfl) ?_
   refine Ln rfl rfl rfl rfl (.inr rfl) ?_
   refine zn e14 ?_; refine Lypb (V_pickF rfl (evb e14) rfl) rfl rfl rfl rfl e10 ?_
   exact hk14 _ _ ⟨_, FL, h⟩
  rintro fr σ ⟨u16, hl, h⟩; unfold j61_ref08_one at h; refine Lfr hl ?_
  refine zk e10 ?_; exact hk10 _ _ ⟨_, FL, h⟩
 rintro fr σ ⟨u15, hl, h⟩; unfold j13_ref08_one at h; refine Lfr hl ?_
 refine z2 ?_; refine zj h (fun h => ?_) fun h => ?_
 ·refine z3 ?_; refine zm (V_bld (vs := []) (cs := #[.string ByteArray.empty, .int .i64 0]) rfl underlying175 ty175 pl175 rfl rfl) ?_; refine zs ty175 h fun σ h => ?_; refine zp ?_; refine z2 ?_; refine AW.ret ?_; refine thenR ?_; obtain ⟨u20, u21, hc0, h⟩ := h
  exact bRM results99 (rCons (rAgg rfl underlying175 rfl ty175 hc0) (rCons (rTmp rfl) rNil)) ⟨_, _, _, rfl, h⟩
 refine AW.skip ?_; refine thenN (z3 ?_); refine zm (V_bld (vs := []) (cs := #[.string ByteArray.empty, .int .i64 0]) rfl underlying175 ty175 pl175 rfl rfl) ?_; refine zA (A_alloc rfl ty175) h fun u22 h => ?_; refine zs ty175 h fun σ h => ?_; refine zp ?_; refine z2 ?_; refine AW.seqJ (fun fr σ => ∃ (u23 : Int), FrLe [(0, .pointer a0), (1, .string a1), (3, .int .i64 a3), (4, .int .i64 a4), (11, .pointer (some ⟨u0, 0, none⟩)), (12, .pointer (some ⟨u1, 0, none⟩)), (16, .pointer (some ⟨u22, 0, none⟩)), (17, .int .i64 u23)] fr ∧ j17_ref08_one B ro a0 a1 a3 a4 u0 u1 u22 Q u23 σ) ?_ ?_
 ·rintro fr σ ⟨u23, hl, h⟩; refine AW.weaken ?_ hl (HLe.refl _)
  unfold j17_ref08_one at h; refine AW.seqJ (fun fr σ => ∃ (u24 : Int), FrLe [(12, .pointer (some ⟨u1, 0, none⟩)), (16, .pointer (some ⟨u22, 0, none⟩)), (17, .int .i64 u24)] fr ∧ j19_ref08_one B ro u1 u22 Q u24 σ) ?_ ?_
  ·rintro fr σ ⟨u24, hl, h⟩; refine AW.weaken ?_ hl (HLe.refl _)
   unfold j19_ref08_one at h; refine AW.seq (z3 ?_); iterate 2 refine zp ?_
   refine z2 ?_; refine AW.iff rfl (bnot_iff decide_eq_true_iff) h (fun h => ?_) (fun h => ?_)
   rotate_left
   ·refine AW.skip ?_; refine thenN (z3 ?_); obtain ⟨u25, u26, hc, h⟩ := h
    refine zl (X_lda rfl underlying175 rfl ty175 rfl hc ?_)
    refine zs ty175 h fun σ h => ?_; refine zp ?_; refine z2 ?_; refine AW.ret ?_; obtain ⟨u27, u28, hc0, h⟩ := h
    exact bRM results99 (rCons (rAgg rfl underlying175 rfl ty175 hc0) (rCons (rTmp rfl) rNil)) ⟨_, _, _, rfl, h⟩
   refine z3 ?_; refine zm (V_bld (vs := []) (cs := #[.string ByteArray.empty, .int .i64 0]) rfl underlying175 ty175 pl175 rfl rfl) ?_; refine zp ?_; refine zs ty175 h fun σ h => ?_; refine zp ?_; refine z2 ?_; refine AW.ret ?_; refine thenR ?_; obtain ⟨u29, u30, hc0, h⟩ := h
   exact bRM results99 (rCons (rAgg rfl underlying175 rfl ty175 hc0) (rCons (rTmp rfl) rNil)) ⟨_, _, _, rfl, h⟩
  refine z3 ?_; iterate 3 refine zp ?_
  refine LsplitJ 9 (decide (u23 = 0)) decide_eq_true_iff h (fun fr σ => ∃ (u31 : Bool), FrLe [(0, .pointer a0), (1, .string a1), (3, .int .i64 a3), (4, .int .i64 a4), (12, .pointer (some ⟨u1, 0, none⟩)), (16, .pointer (some ⟨u22, 0, none⟩)), (17, .int .i64 u23), (147, .bool u31)] fr ∧ j24_ref08_one B ro a0 a1 a3 a4 u1 u22 u23 Q u31 σ) ?_ ?_ ?_
  ·intro h e2 hk2; refine Lypb (V_fld rfl underlying179 rfl ty3 (by decide) rfl) rfl rfl rfl rfl e2 ?_
   obtain ⟨u32, hc, h⟩ := h
   refine Lyb rfl rfl rfl rfl e2 (X_ld rfl underlying3 rfl rfl hc ?_)
   refine zy e2 ?_; refine zy e2 ?_; refine LsplitJ 4 (decide (u32 = 1)) decide_eq_true_iff h (fun fr σ => ∃ (u33 : Bool), FrLe [(0, .pointer a0), (1, .string a1), (3, .int .i64 a3), (4, .int .i64 a4), (12, .pointer (some ⟨u1, 0, none⟩)), (16, .pointer (some ⟨u22, 0, none⟩)), (17, .int .i64 u23), (138, .bool (decide (u23 = 0))), (146, .bool u33)] fr ∧ j29_ref08_one B ro a0 a1 a3 a4 u1 u22 u23 Q u33 σ) ?_ ?_ ?_
   ·intro h e6 hk6; iterate 3 refine zn e6 ?_
    refine Lypb (V_pickT rfl (evb e6) rfl) rfl rfl rfl rfl e2 ?_
    exact hk6 _ _ ⟨_, FL, h⟩
   ·intro h e6 hk6; refine Lypb (V_fld rfl underlying179 rfl ty3 (by decide) rfl) rfl rfl rfl rfl e6 ?_
    obtain ⟨u34, hc, h⟩ := h
    refine Lyb rfl rfl rfl rfl e6 (X_ld rfl underlying3 rfl rfl hc ?_)
    refine zy e6 ?_; refine Lypb (V_pickF rfl (evb e6) rfl) rfl rfl rfl rfl e2 ?_
    exact hk6 _ _ ⟨_, FL, h⟩
   rintro fr σ ⟨u33, hl, h⟩; unfold j29_ref08_one at h; refine Lfr hl ?_
   refine zk e2 ?_; exact hk2 _ _ ⟨_, FL, h⟩
  ·intro h e2 hk2; iterate 4 refine zn e2 ?_
   refine Ln rfl rfl rfl rfl (.inr rfl) ?_
   refine Ln rfl rfl rfl rfl (.inr rfl) ?_
   refine Ln rfl rfl rfl rfl (.inr rfl) ?_
   refine zn e2 ?_; refine zk e2 ?_; exact hk2 _ _ ⟨_, FL, h⟩
  rintro fr σ ⟨u31, hl, h⟩; unfold j24_ref08_one at h; refine Lfr hl ?_
  refine z2 ?_; refine zj h (fun h => ?_) fun h => ?_
  rotate_left
  ·refine AW.skip ?_; refine thenN ?_; exact ⟨_, FL, h⟩
  refine z3 ?_; iterate 2 refine zp ?_
  refine zc func47 h ?_; rintro v σ ⟨u35, u36, rfl, h⟩; iterate 5 refine zp ?_
  refine z4 ?_; iterate 4 refine zp ?_
  refine Lsplit 4 (decide (a3 < u35)) [(12, .pointer (some ⟨u1, 0, none⟩)), (16, .pointer (some ⟨u22, 0, none⟩)), (17, .int .i64 u23), (161, .bool ((decide (a3 < u35)) || (decide (a4 < u36))))] ?_ ?_ ?_
  ·intro e3 hk3
   iterate 3 refine zn e3 ?_
   refine zk e3 ?_; exact hk3 _ (Fe e3)
  ·intro e3 hk3
   refine zy e3 ?_; refine zy e3 ?_; refine zy e3 ?_; refine zk e3 ?_; exact hk3 _ (Fe e3)
  intro fr hl
  refine Lfr hl ?_
  refine z2 ?_; refine AW.iff rfl (bor_iff decide_eq_true_iff decide_eq_true_iff) h (fun h => ?_) (fun h => ?_)
  rotate_left
  ·refine AW.skip ?_; refine thenN ?_; exact ⟨_, FL, h⟩
  refine AW.reg ?_; refine zp ?_; refine z2 ?_; exact ⟨_, FL, h⟩
 refine z3 ?_; refine zf underlying179 ty3 ?_; refine zL underlying3 h fun u37 h => ?_; refine z2 (AW.block (z3 ?_))
 iterate 2 refine zp ?_
 refine z2 ?_; refine zi h (fun h => ?_) fun h => ?_
 ·refine z3 ?_; refine zp ?_; refine z2 ?_; refine AW.seqJ (fun fr σ => ∃ (u38 : Int), FrLe [(0, .pointer a0), (1, .string a1), (3, .int .i64 a3), (4, .int .i64 a4), (11, .pointer (some ⟨u0, 0, none⟩)), (12, .pointer (some ⟨u1, 0, none⟩)), (16, .pointer (some ⟨u22, 0, none⟩)), (18, .int .i64 u38)] fr ∧ j33_ref08_one B ro a0 a1 a3 a4 u0 u1 u22 Q u38 σ) ?_ ?_
  rotate_left
  ·refine z3 ?_; refine zf underlying179 ty4 ?_; refine zL underlying4 h fun u39 h => ?_; refine z2 ?_; refine zj h (fun h => ?_) fun h => ?_
   rotate_left
   ·refine AW.skip ?_; refine thenN ?_; exact ⟨_, FL, h⟩
   refine AW.reg ?_; iterate 2 refine zp ?_
   refine z2 ?_; exact ⟨_, FL, h⟩
  rintro fr σ ⟨u38, hl, h⟩; refine AW.weaken ?_ hl (HLe.refl _)
  unfold j33_ref08_one at h; refine AW.reg ?_; refine zp ?_; refine zf underlying179 ty9 ?_; refine zL underlying9 h fun u40 h => ?_; refine zf underlying179 ty30 ?_; refine zL underlying30 h fun u41 h => ?_; refine zp ?_; refine zf underlying179 ty4 ?_; refine zL underlying4 h fun u42 h => ?_; refine zc func32 h ?_; rintro v σ ⟨u43, u44, rfl, h⟩; iterate 3 refine zp ?_
  refine zf underlying175 ty9 ?_; refine zs ty9 h fun σ h => ?_; refine zp ?_; refine Lnil (blockN (thenN ?_)); exact ⟨_, FL, h⟩
 refine z3 ?_; iterate 2 refine zp ?_
 refine z2 ?_; refine zi h (fun h => ?_) fun h => ?_
 ·refine AW.reg ?_; refine zp ?_; refine zf underlying179 ty9 ?_; refine zL underlying9 h fun u45 h => ?_; refine zf underlying179 ty3 ?_; refine zL underlying3 h fun u46 h => ?_; refine zc func33 h ?_; rintro v σ ⟨u47, rfl, h⟩; refine zp ?_; refine Lnil (blockN (thenN ?_)); exact ⟨_, FL, h⟩
 refine z3 ?_; iterate 2 refine zp ?_
 refine z2 ?_; refine zi h (fun h => ?_) fun h => ?_
 ·refine AW.reg ?_; refine zp ?_; refine zf underlying179 ty9 ?_; refine zL underlying9 h fun u48 h => ?_; refine zf underlying179 ty30 ?_; refine zL underlying30 h fun u49 h => ?_; refine zf underlying179 ty3 ?_; refine zL underlying3 h fun u50 h => ?_; refine zc func34 h ?_; rintro v σ ⟨u51, u52, rfl, h⟩; iterate 3 refine zp ?_
  refine zf underlying175 ty3 ?_; refine zs ty3 h fun σ h => ?_; refine zp ?_; refine Lnil (blockN (thenN ?_)); exact ⟨_, FL, h⟩
 refine z3 ?_; iterate 2 refine zp ?_
 refine z2 ?_; refine zi h (fun h => ?_) fun h => ?_
 rotate_left
 ·refine AW.skip ?_; refine blockN (thenN ?_); exact ⟨_, FL, h⟩
 refine z3 ?_; refine zp ?_; refine zf underlying179 ty9 ?_; refine zL underlying9 h fun u53 h => ?_; refine zc func89 h ?_; rintro v σ ⟨u54, u55, u56, u57, u58, u59, u60, rfl, h⟩; iterate 4 refine zp ?_
 refine zA (A_alloc rfl ty159) h fun u61 h => ?_; refine zs ty159 h fun σ h => ?_; iterate 2 refine zp ?_
 refine z4 ?_; iterate 2 refine zp ?_
 refine z4 ?_; iterate 3 refine zp ?_
 refine LsplitJ 4 (decide (u60 = 0)) decide_eq_true_iff h (fun fr σ => ∃ (u62 : Bool), FrLe [(0, .pointer a0), (1, .string a1), (3, .int .i64 a3), (4, .int .i64 a4), (11, .pointer (some ⟨u0, 0, none⟩)), (12, .pointer (some ⟨u1, 0, none⟩)), (16, .pointer (some ⟨u22, 0, none⟩)), (17, .int .i64 u60), (19, .pointer (some ⟨u61, 0, none⟩)), (128, .bool u62)] fr ∧ j54_ref08_one B ro a0 a1 a3 a4 u0 u1 u22 u61 u60 Q u62 σ) ?_ ?_ ?_
 ·intro h e2 hk2; refine Lypb (V_fld rfl underlying179 rfl ty3 (by decide) rfl) rfl rfl rfl rfl e2 ?_
  obtain ⟨u63, hc, h⟩ := h
  refine Lyb rfl rfl rfl rfl e2 (X_ld rfl underlying3 rfl rfl hc ?_)
  refine zy e2 ?_; refine zk e2 ?_; exact hk2 _ _ ⟨_, FL, h⟩
 ·intro h e2 hk2; iterate 3 refine zn e2 ?_
  refine zk e2 ?_; exact hk2 _ _ ⟨_, FL, h⟩
 rintro fr σ ⟨u62, hl, h⟩; unfold j54_ref08_one at h; refine Lfr hl ?_
 refine zp ?_; refine LsplitJ 6 u62 Iff.rfl h (fun fr σ => ∃ (u64 : Bool), FrLe [(0, .pointer a0), (1, .string a1), (3, .int .i64 a3), (4, .int .i64 a4), (11, .pointer (some ⟨u0, 0, none⟩)), (12, .pointer (some ⟨u1, 0, none⟩)), (16, .pointer (some ⟨u22, 0, none⟩)), (17, .int .i64 u60), (135, .bool u64)] fr ∧ j56_ref08_one B ro a0 a1 a3 a4 u0 u1 u22 u60 Q u64 σ) ?_ ?_ ?_
 ·intro h e7 hk7; refine Lypb (V_fld rfl underlying179 rfl ty3 (by decide) rfl) rfl rfl rfl rfl e7 ?_
  obtain ⟨u65, hc, h⟩ := h
  refine Lyb rfl rfl rfl rfl e7 (X_ld rfl underlying3 rfl rfl hc ?_)
  refine Lypb (V_fld rfl underlying159 rfl ty3 (by decide) rfl) rfl rfl rfl rfl e7 ?_
  obtain ⟨u66, hc, h⟩ := h
  refine Lyb rfl rfl rfl rfl e7 (X_ld rfl underlying3 rfl rfl hc ?_)
  refine zy e7 ?_; refine zk e7 ?_; exact hk7 _ _ ⟨_, FL, h⟩
 ·intro h e7 hk7; iterate 5 refine zn e7 ?_
  refine zk e7 ?_; exact hk7 _ _ ⟨_, FL, h⟩
 rintro fr σ ⟨u64, hl, h⟩; unfold j56_ref08_one at h; refine Lfr hl ?_
 refine z2 ?_; refine zj h (fun h => ?_) fun h => ?_
 rotate_left
 ·refine AW.skip ?_; refine blockN (thenN ?_); exact ⟨_, FL, h⟩
 refine AW.reg ?_; refine zp ?_; refine Lnil (blockN (thenN ?_)); exact ⟨_, FL, h⟩
def f_ref08_home (B : World) (ro : AH) (a0 : ByteArray) (σ : AH) (Q : ByteArray → AH → Prop) : Prop :=
 c_ref02_Home B ro a0 σ fun u0 u1 σ =>
 Q u0 σ
theorem ref08_home_ok {a0 : ByteArray} {Q : ByteArray → AH → Prop} (h : Sep ro σ → f_ref08_home B ro a0 σ Q) : c_ref08_home B ro a0 σ Q := by
 refine zb h func102 ntmps102 fun h => ?_; unfold f_ref08_home at h; refine z3 ?_; refine zp ?_; refine z4 ?_; refine zp ?_; refine zc func127 h ?_; rintro v σ ⟨u0, u1, rfl, h⟩; iterate 5 refine zp ?_
 refine z4 ?_; iterate 2 refine zp ?_
 refine z2 ?_; refine AW.ret ?_; exact bR1 results102 rfl ⟨_, rfl, h⟩
end G
namespace Zt
open Go SL G Pa
variable {B : World} {ro σ σ' : AH} {tag tag' : Nat → Nat}
theorem rhome_ok {s : ByteArray} {Q : ByteArray → AH → Prop} (hQ : ∀ tag' σ', Step [] ro tag σ tag' σ' → Q (S ((homeOf (L s)).getD [])) σ') : c_ref08_home B ro s σ Q := by
 refine ref08_home_ok fun _ => ?_
 unfold f_ref08_home
 refine ref02_Home_ok fun hs => ?_
 unfold f_ref02_Home
 refine rparts2_ok (tag := tag) 0 hs (fun h sl tag1 σ1 st1 => ?_) fun ps hps sl tag1 σ1 st1 r1 => ?_
 ·rw [if_pos (.inl (by simp))]
  have := hQ tag1 σ1 st1
  unfold homeOf at this
  rw [h] at this
  exact this
 ·have hln : sl.len = ps.length := by rw [r1.len, List.length_map]
  have hh := homeOf_parts hps
  by_cases h0 : ps = []
  ·subst h0
   rw [if_pos (.inr (by rw [hln]; rfl))]
   rw [hh] at hQ
   exact hQ tag1 σ1 st1
  ·have hpos := List.length_pos_iff.2 h0
   rw [if_neg (by
    intro h
    rcases h with h | h
    ·exact h rfl
    ·omega)]
   obtain ⟨p, hp, _, hget⟩ := Row.sget r1 st1.sep hpos
   refine ⟨p, hp, by decide, by omega, _, hget 0 hpos, ?_⟩
   rw [hh, List.head?_eq_getElem?, List.getElem?_eq_getElem hpos] at hQ
   exact hQ tag1 σ1 st1
theorem usage_snoc (a : St) (p : Str × Nd) (h : Str) : usage (a ++ [p]) h = ((usage a h).1 + (if homeOf p.1 = some h then 1 else 0), (usage a h).2 + uw h p) := by
 unfold usage
 rw [List.countP_append, List.map_append, List.sum_append]
 simp [List.countP_cons]
theorem rusage_ok {T : Nat} {l : St} {home : Str} {Q : Int → Int → AH → Prop} (h : RefM ro σ T l) (hro : ∀ tag' σ', Step [] ro tag σ tag' σ' → RefM ro σ' T l) (hs : SL.Sep ro σ) (hl : l.length ≤ 4294967296) (hsm : ∀ p ∈ l, p.1.length ≤ 128 ∧ p.2.data.length ≤ 256) (hpath : ∀ p ∈ l, ∃ ps, parts p.1 = some ps)
  (hQ : ∀ tag' σ', Step [] ro tag σ tag' σ' → Q ((usage l home).1 : Nat) ((usage l home).2 : Nat) σ') : c_ref08_Usage B ro (some ⟨T, 0, none⟩) (S home) σ Q := by
 refine ref08_Usage_ok fun _ => ?_
 unfold f_ref08_Usage
 have bnd : ∀ a : St, (∀ p ∈ a, p.1.length ≤ 128 ∧ p.2.data.length ≤ 256) → (usage a home).1 ≤ a.length ∧ (usage a home).2 ≤ a.length * 384 := fun a ha => by
  refine ⟨List.countP_le_length, ?_⟩
  unfold usage
  simp only
  induction a with
  | nil => simp
  | cons p a ih =>
   rw [List.map_cons, List.sum_cons, List.length_cons]
   have := ih fun q hq => ha q (by simp [hq])
   have h2 := ha p (by simp)
   have : uw home p ≤ 384 := by unfold uw; split <;> omega
   omega
 suffices ∀ m j tag2 σ2, j + m = l.length → Step [] ro tag σ tag2 σ2 → lfpD (l4_ref08_Usage B ro (some ⟨T, 0, none⟩) (S home) Q) (((usage (l.take j) home).1 : Nat), ((usage (l.take j) home).2 : Nat), (j : Int)) σ2 from this _ 0 tag σ (Nat.zero_add _) (Step.refl hs)
 intro m
 induction m with
 | zero =>
  intro j tag2 σ2 hj st2
  obtain ⟨s0, e1, e2⟩ := (hro tag2 σ2 st2).len
  refine lfpD.intro ?_
  unfold l4_ref08_Usage
  simp only
  refine ⟨_, rfl, s0, e1, ?_⟩
  rw [if_neg (by omega)]
  unfold j1_ref08_Usage
  rw [List.take_of_length_le (by omega)]
  exact hQ tag2 σ2 st2
 | succ m ih =>
  intro j tag2 σ2 hj st2
  have hjl : j < l.length := by omega
  have hjg : l[j]? = some l[j] := List.getElem?_eq_getElem hjl
  obtain ⟨s0, b, d, e1, e2, e3, e4⟩ := (hro tag2 σ2 st2).row hjg
  have hsj := hsm _ (List.getElem_mem hjl)
  obtain ⟨b1, b2⟩ := bnd (l.take j) fun p hp => hsm p (List.mem_of_mem_take hp)
  have hlt : (l.take j).length = j := by rw [List.length_take]; omega
  rw [hlt] at b1 b2
  have etk : l.take (j + 1) = l.take j ++ [l[j]] := by rw [List.take_add_one, hjg]; rfl
  have eu := usage_snoc (l.take j) l[j] home
  rw [← etk] at eu
  refine lfpD.intro ?_
  unfold l4_ref08_Usage
  simp only
  refine ⟨_, rfl, s0, e1, ?_⟩
  rw [if_pos (by omega)]
  refine ⟨_, rfl, s0, e1, _, e3, by omega, by omega, S l[j].1, by simpa [add_add, add_zero] using e4 0 _ rfl, ?_⟩
  have yes : ∀ tag3 σ3, Step [] ro tag σ tag3 σ3 → homeOf l[j].1 = some home → j17_ref08_Usage B ro (some ⟨T, 0, none⟩) (S home) ((usage (l.take j) home).1 : Nat) ((usage (l.take j) home).2 : Nat) (j : Int) (S l[j].1) Q (lfpD (l4_ref08_Usage B ro (some ⟨T, 0, none⟩) (S home) Q)) true σ3 := fun tag3 σ3 st3 hh => by
   unfold j17_ref08_Usage
   rw [if_pos rfl]
   obtain ⟨s3, b3, d3, f1, f2, f3, f4⟩ := (hro tag3 σ3 st3).row hjg
   obtain ⟨s4, g1, g2, g3⟩ := hro tag3 σ3 st3
   obtain ⟨b', d', ha', hc', hd'⟩ := g3 j _ hjg
   have es : s4 = s3 := by rw [f1] at g1; cases s3; cases s4; simp [Sl.v] at g1; simp [g1]
   subst es
   have eb : b' = b3 := by rw [f3] at ha'; cases ha'; rfl
   subst eb
   have hdl : d'.len = l[j].2.data.length := by rw [hd'.1, List.length_map]
   refine ⟨_, rfl, s4, f1, _, f3, by omega, by omega, d', ?_, ?_⟩
   ·rw [Int.toNat_natCast, add_add, add_add, Nat.zero_add]
    exact hc' 1 _ rfl
   ·unfold j10_ref08_Usage
    have euw : uw home l[j] = l[j].1.length + l[j].2.data.length := by unfold uw; rw [if_pos hh]
    rw [if_pos hh, euw] at eu
    have q1 : i64.wrap (((usage (l.take j) home).1 : Int) + 1) = (((usage (l.take (j + 1)) home).1 : Nat) : Int) := by rw [w64_eq (by omega) (by omega), eu]; simp
    have q2 : i64.wrap (((S l[j].1).size : Int) + (d'.len : Int)) = ((l[j].1.length + l[j].2.data.length : Nat) : Int) := by rw [S_size, hdl, w64_eq (by omega) (by omega)]; simp
    have q3 : i64.wrap (((usage (l.take j) home).2 : Int) + ((l[j].1.length + l[j].2.data.length : Nat) : Int)) = (((usage (l.take (j + 1)) home).2 : Nat) : Int) := by rw [w64_eq (by omega) (by omega), eu]; simp
    rw [Pa.inc j (by omega), q2, q1, q3]
    exact ih (j + 1) tag3 σ3 (by omega) st3
  have no : ∀ tag3 σ3, Step [] ro tag σ tag3 σ3 → homeOf l[j].1 ≠ some home → j17_ref08_Usage B ro (some ⟨T, 0, none⟩) (S home) ((usage (l.take j) home).1 : Nat) ((usage (l.take j) home).2 : Nat) (j : Int) (S l[j].1) Q (lfpD (l4_ref08_Usage B ro (some ⟨T, 0, none⟩) (S home) Q)) false σ3 := fun tag3 σ3 st3 hh => by
   unfold j17_ref08_Usage
   rw [if_neg (by simp)]
   unfold j10_ref08_Usage
   have euw : uw home l[j] = 0 := by unfold uw; rw [if_neg hh]
   rw [if_neg hh, euw] at eu
   rw [Pa.inc j (by omega)]
   have := ih (j + 1) tag3 σ3 (by omega) st3
   rw [eu] at this
   exact this
  by_cases c : l[j].1 = [47]
  ·have e47 : S l[j].1 = (⟨#[47]⟩ : ByteArray) := by rw [c]; rfl
   rw [if_neg (fun h => h e47)]
   exact no tag2 σ2 st2 (by rw [c]; intro h; cases h)
  ·have n47 : S l[j].1 ≠ (⟨#[47]⟩ : ByteArray) := fun h => c (S_inj.1 (h.trans (show (⟨#[47]⟩ : ByteArray) = S [47] from rfl)))
   rw [if_pos n47]
   refine rhome_ok (tag := tag2) fun tag3 σ3 st3 => ?_
   obtain ⟨ps, hps⟩ := hpath _ (List.getElem_mem hjl)
   have hh := homeOf_parts hps
   rw [L_S]
   have hne : ps ≠ [] := fun e => c (by obtain ⟨h1, _⟩ := parts_iff.1 hps; rw [h1, e]; rfl)
   have hpos := List.length_pos_iff.2 hne
   rw [List.head?_eq_getElem?, List.getElem?_eq_getElem hpos] at hh
   by_cases ce : ps[0] = home
   ·rw [show decide (S ((homeOf l[j].1).getD []) = S home) = true by rw [hh, ce]; simp]
    exact yes tag3 σ3 (st2.trans st3) (by rw [hh, ce])
   ·rw [show decide (S ((homeOf l[j].1).getD []) = S home) = false by
     rw [decide_eq_false_iff_not]; intro h; have := S_inj.1 h; rw [hh] at this; exact ce this]
    exact no tag3 σ3 (st2.trans st3) (by rw [hh]; intro h; cases h; exact ce rfl)
end Zt
end Go.Proofs.YthfpmipeejjogaaGreatDoor
