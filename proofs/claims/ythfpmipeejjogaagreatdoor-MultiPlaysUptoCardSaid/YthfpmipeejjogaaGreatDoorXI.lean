/- ZtF, GR1, EnC, WiD, MapIt, EnD, EnE, ZtL, ZtV, ZtS, ZtX -/
import Derived.Sort.Walk0
import Derived.Test.YthfpmipeejjogaaGreatDoorXH
set_option maxRecDepth 100000
set_option maxHeartbeats 4000000
set_option linter.unusedVariables false
set_option linter.unusedSimpArgs false
open Go.IntKind (i64)
open Go.Proofs.Tryz
namespace Go.Proofs.YthfpmipeejjogaaGreatDoor
namespace Zt
open Go SL G Pa
variable {B : World} {ro σ σ' : AH} {tag tag' : Nat → Nat}
theorem size_ok {r T M : Nat} {bs : List Nat} {st : St} {Q : Int → AH → Prop} (h : TreeAt tag σ r T M bs st) (hQ : Q (st.length : Int) σ) : c_ztree_Tree_Size B ro (some ⟨T, 0, none⟩) σ Q := by
 refine ztree_Tree_Size_ok fun hs => ?_
 unfold f_ztree_Tree_Size
 refine ⟨_, rfl, _, Row.cell1 h.cell hs, ?_⟩
 obtain ⟨es, clock, hb, he, hbn⟩ := h.map.obj
 have hsz : es.size = st.length := by
  have := congrArg List.length he
  simp only [List.length_map, Array.length_toList] at this
  rw [this, kv_length _ _ h.len]
 unfold Builtin.len_
 refine ⟨.map es clock, by unfold SL.rd; rw [hs M _ hb]; exact hb, rfl, ?_⟩
 exact ⟨(st.length : Int), by rw [hsz]; rfl, hQ⟩
theorem get_ok {r T M : Nat} {bs : List Nat} {st : St} {p : ByteArray} {Q : Sl → Int → Int → Int → Int → Int → AH → Prop} (g : Glob ro) (hr : r < 64) (hr6 : r ≠ 6) (hr0 : r ≠ 0) (h : TreeAt tag σ r T M bs st) (hdl : ∀ p n, st.lookup p = some n → n.data.length ≤ 256)
  (hbad : parts (L p) = none → ∀ tag' σ', StepC 0 ro tag σ tag' σ' → Q ⟨none, 0, 0⟩ 0 0 0 0 20 σ') (hmiss : ∀ ps, parts (L p) = some ps → st.lookup (L p) = none → ∀ tag' σ', StepC 0 ro tag σ tag' σ' → Q ⟨none, 0, 0⟩ 0 0 0 0 70 σ')
  (hhit : ∀ n, st.lookup (L p) = some n → ∀ s tag' σ', StepC 0 ro tag σ tag' σ' → Row tag' σ' 6 5 s (n.data.map vU) → Q s n.ver n.ctr n.own n.kids 0 σ') : c_ztree_Tree_Get B ro (some ⟨T, 0, none⟩) p σ Q := by
 refine ztree_Tree_Get_ok fun hs => ?_
 unfold f_ztree_Tree_Get
 refine nw_cells (tag := tag) 0 hs fun x tag1 σ1 st1 r1 => ?_
 have hA := h.keep (st1 [])
 have hs1 := (st1 []).sep
 have err : ∀ e : Int, (∀ tag' σ', StepC 0 ro tag σ tag' σ' → Q ⟨none, 0, 0⟩ 0 0 0 0 e σ') → stN ⟨x, 0, none⟩ (fun σ => ∃ (x5_4a : Int) (x5_4b : Int) (x5_4c : Int) (x5_4d : Int), cellsAt ro σ ⟨x, 0, none⟩ 0 [.int .i64 x5_4a, .int .i64 x5_4b, .int .i64 x5_4c, .int .i64 x5_4d] ∧ Q (⟨none, 0, 0⟩ : Sl) x5_4a x5_4b x5_4c x5_4d e σ) [.int .i64 0, .int .i64 0, .int .i64 0, .int .i64 0] 0 σ1 := by
  intro e he
  refine r1.stAll hs1 rfl (by simp [storable]) fun σ2 st2 r2 => ?_
  obtain ⟨q, hq, hg⟩ := r2.ptr st2.sep (by simp)
  cases hq
  exact ⟨0, 0, 0, 0, cellsAt_of 0 fun j v hj => by have := hg j v hj; rwa [Nat.mul_one, ← Nat.zero_add j] at this, he tag1 σ2 (((st1 []).c (by simp)).trans (st2.c (by simp)))⟩
 refine find_ok g hA hs1 (fun hb => ?_) (fun ps hps hl => ?_) (fun ps i b n hps hb hp hl => ?_)
 ·rw [if_pos (by decide)]
  exact err 20 (hbad hb)
 ·rw [if_pos (by decide)]
  exact err 70 (hmiss ps hps hl)
 ·rw [if_neg (by decide)]
  obtain ⟨ds, hn, hd⟩ := hA.nodes i b _ hb hp
  obtain ⟨ht0, hto⟩ := hn.tagOf
  refine lent_block b ?_
  have hs2 : SL.Sep (join ro (SL.one σ1 b)) (SL.del σ1 b) := hs1.lent
  refine ⟨_, rfl, _, rfl, n.ver, n.ctr, n.own, n.kids, cellsAt_of 0 fun j v hj => ?_, ds, hn.lend hs1 (i := 4) rfl, ?_⟩
  ·rw [Nat.zero_add, ← Nat.mul_one j]
   have hj4 : j < 4 := by
    rcases Nat.lt_or_ge j 4 with h' | h'
    ·exact h'
    ·rw [List.getElem?_eq_none (by simpa using h')] at hj; cases hj
   refine hn.lend hs1 (i := j) ?_
   rw [← hj]
   rcases j with _ | _ | _ | _ | j
   ·rfl
   ·rfl
   ·rfl
   ·rfl
   ·omega
  ·have hd1 := hd.del (b := b) ht0 (by omega)
   have hx1 := r1.del (b := b) ht0 (by omega)
   refine clone_ok (tag := tag1) (hd1.read hs2) hs2 ?_ (by simp [storable]) fun s' tag2 σ2 st2 r2 => ?_
   ·have := hdl _ _ hl; simp; omega
   ·have hx2 := hx1.keep (st2 [])
    refine hx2.stAll (st2 []).sep rfl (by simp [storable]) fun σ3 st3 r3 => ?_
    intro hdj
    have stB := ((st2 [0]).trans st3).back hs1 hdj hto
    have r4 := r3.back (r' := tag1 b) hdj hto
    have r5 := (r2.keep st3).back (r' := tag1 b) hdj hto
    obtain ⟨q, hq, hg⟩ := r4.ptr stB.sep (by simp)
    cases hq
    refine ⟨n.ver, n.ctr, n.own, n.kids, cellsAt_of 0 fun j v hj => by have := hg j v hj; rwa [Nat.mul_one, ← Nat.zero_add j] at this, ?_⟩
    exact hhit n hl s' _ _ (((st1 []).c (by simp)).trans (stB.c (by simp))) r5
theorem call58 {x : Nat} {s : Str} {K : Value → AH → Prop} (h : c_ztree_Tree_Paths_c1 B ro (S s) ⟨x, 0, none⟩ σ fun r σ => K (.bool r) σ) : callV prog B ro (.func (.func 58) #[] #[.pointer (some ⟨x, 0, none⟩)]) [.string (S s)] σ K := by
 refine ⟨58, f58, #[], #[.pointer (some ⟨x, 0, none⟩)], rfl, func58, by kernel_rfl, by kernel_rfl, ?_⟩
 exact ACalls.mono h fun v τ ⟨r, e, q⟩ => e ▸ q
end Zt
namespace G
open Go SL
variable {B : World} {ro σ : AH}
def f_ref01_Copy (B : World) (ro : AH) (a0 : Sl) (σ : AH) (Q : Sl → AH → Prop) : Prop :=
 nw ro σ (.cells #[Sl.v a0] 30) fun u0 σ =>
 c_ref01_Join B ro (⟨some ⟨u0, 0, none⟩, 1, 1⟩ : Sl) σ fun u1 σ =>
 Q u1 σ
theorem ref01_Copy_ok {a0 : Sl} {Q : Sl → AH → Prop} (h : Sep ro σ → f_ref01_Copy B ro a0 σ Q) : c_ref01_Copy B ro a0 σ Q := by
 refine zb h func23 ntmps23 fun h => ?_; unfold f_ref01_Copy at h; refine z3 ?_; refine zp ?_; refine z4 ?_; refine zp ?_; refine zA (A_bsl (vs := [(0, Sl.v a0)]) (cs := #[Sl.v a0]) rfl underlying208 ty30 (by decide) rfl rfl) h fun u0 h => ?_; refine zc func72 h ?_; rintro v σ ⟨u1, rfl, h⟩; refine zp ?_; refine z2 ?_; refine AW.ret ?_; exact bR1 results23 rfl ⟨_, rfl, h⟩
def f_ref01_Same (B : World) (ro : AH) (a0 : Sl) (a1 : Sl) (σ : AH) (Q : Bool → AH → Prop) : Prop :=
 awp prog ro (convert 30 9 (Sl.v a0)) (fun v σ =>
 (∃ (u0 : ByteArray), v = .string u0 ∧
  awp prog ro (convert 30 9 (Sl.v a1)) (fun v σ =>
  (∃ (u1 : ByteArray), v = .string u1 ∧
   Q (decide (u0 = u1)) σ)) σ)) σ
theorem ref01_Same_ok {a0 : Sl} {a1 : Sl} {Q : Bool → AH → Prop} (h : Sep ro σ → f_ref01_Same B ro a0 a1 σ Q) : c_ref01_Same B ro a0 a1 σ Q := by
 refine zb h func26 ntmps26 fun h => ?_; unfold f_ref01_Same at h; refine z3 ?_; refine zp ?_; refine z4 ?_; refine zp ?_; refine zl (X_cvt rfl rfl (awp_mono _ h ?_))
 rintro v σ ⟨u0, rfl, h⟩; refine zp ?_; refine zl (X_cvt rfl rfl (awp_mono _ h ?_))
 rintro v σ ⟨u1, rfl, h⟩; iterate 2 refine zp ?_
 refine z2 ?_; refine AW.ret ?_; exact bR1 results26 rfl ⟨_, rfl, h⟩
def j2_ref01_Join (B : World) (ro : AH) (Q : Sl → AH → Prop) (u0 : Sl) (σ : AH) : Prop :=
 Q u0 σ
def l4_ref01_Join (B : World) (ro : AH) (a0 : Sl) (Q : Sl → AH → Prop) : (Sl × Int) → AH → ((Sl × Int) → AH → Prop) → Prop := fun ⟨u0, u1⟩ σ Y4 =>
 if u1 < (a0.len : Int) then
 ∃ p2, a0.a = some p2 ∧ (0 : Int) ≤ u1 ∧ u1 < (a0.len : Int) ∧
 ∃ u3, acell ro σ (p2.add (Int.toNat u1 * 1)) = some (Sl.v u3) ∧
 awp prog ro (Builtin.append_ #[30, 30] 30 #[Sl.v u0, Sl.v u3]) (fun v σ => ∃ (u4 : Sl), v = Sl.v u4 ∧
  Y4 (u4, i64.wrap (u1 + 1)) σ) σ
 else
 j2_ref01_Join B ro Q u0 σ
def f_ref01_Join (B : World) (ro : AH) (a0 : Sl) (σ : AH) (Q : Sl → AH → Prop) : Prop :=
 nw ro σ (.cells #[] 5) fun u0 σ =>
 lfpD (l4_ref01_Join B ro a0 Q ) ((⟨some ⟨u0, 0, none⟩, 0, 0⟩ : Sl), 0) σ
theorem ref01_Join_ok {a0 : Sl} {Q : Sl → AH → Prop} (h : Sep ro σ → f_ref01_Join B ro a0 σ Q) : c_ref01_Join B ro a0 σ Q := by
 refine zb h func72 ntmps72 fun h => ?_; unfold f_ref01_Join at h; refine z3 ?_; refine zp ?_; refine z4 ?_; refine zA (A_bsl (vs := []) (cs := #[]) rfl underlying30 ty5 (by decide) rfl rfl) h fun u0 h => ?_; refine zp ?_; refine z2 ?_; refine AW.seqJ (fun fr σ => ∃ (u1 : Sl), FrLe [(3, Sl.v u1)] fr ∧ j2_ref01_Join B ro Q u1 σ) ?_ ?_
 ·rintro fr σ ⟨u1, hl, h⟩; refine AW.weaken ?_ hl (HLe.refl _)
  unfold j2_ref01_Join at h; refine z3 ?_; iterate 2 refine zp ?_
  refine z2 ?_; refine AW.ret ?_; exact bR1 results72 rfl ⟨_, rfl, h⟩
 refine z3 ?_; refine zp ?_; refine z2 (AW.block ?_)
 refine ARound.loop (fr' := [(0, Sl.v a0), (3, Sl.v (⟨some ⟨u0, 0, none⟩, 0, 0⟩ : Sl)), (4, .int .i64 0)]) ?_ FL
 refine h (fun ⟨u2, u3⟩ σ => ARound _ _ _ _ _ _ [(0, Sl.v a0), (3, Sl.v u2), (4, .int .i64 u3)] σ) ?_
 rintro ⟨u2, u3⟩ σ Y4 hY4 h
 show AW _ _ _ _ _ _ _ _
 unfold l4_ref01_Join at h; dsimp only at h; refine AW.seq (z3 ?_); iterate 2 refine zp ?_
 refine zm (V_lenL rfl rfl underlying208 rfl rfl) ?_; refine zp ?_; refine z2 ?_; refine zi h (fun h => ?_) fun h => ?_
 rotate_left
 ·refine AW.exit ?_; refine thenE (thenE ?_); refine blockE ?_
  refine thenN ?_; exact ⟨_, FL, h⟩
 refine AW.skip ?_; refine thenN (AW.seq (AW.block (AW.reg ?_))); iterate 3 refine zp ?_
 obtain ⟨p4, ha, h0, h1, h⟩ := h
 refine zm (V_ixA rfl underlying208 ty30 (ixL rfl ha) rfl h0 h1) ?_; refine zL underlying30 h fun u5 h => ?_; refine zl (X_bi (s := Builtin.append_ #[30, 30] 30 #[Sl.v u2, Sl.v u5]) rfl rfl (fun _ => rfl) (awp_mono _ h ?_))
 rintro v σ ⟨u6, rfl, h⟩; refine zp ?_; refine Lnil (blockN (thenN (AW.reg ?_))); iterate 3 refine zp ?_
 refine z2 ?_; refine ARound.head (fr' := [(0, Sl.v a0), (3, Sl.v u6), (4, .int .i64 (i64.wrap (u3 + 1)))]) ?_ FL
 exact hY4 _ _ h
def f_ref01_Bad (B : World) (ro : AH) (a0 : Int) (σ : AH) (Q : Bool → AH → Prop) : Prop :=
 Q ((decide (a0 < 0)) || (decide (4611686018427387903 < a0))) σ
theorem ref01_Bad_ok {a0 : Int} {Q : Bool → AH → Prop} (h : Sep ro σ → f_ref01_Bad B ro a0 σ Q) : c_ref01_Bad B ro a0 σ Q := by
 refine zb h func92 ntmps92 fun h => ?_; unfold f_ref01_Bad at h; refine z3 ?_; refine zp ?_; refine z4 ?_; iterate 3 refine zp ?_
 refine Lsplit 3 (decide (a0 < 0)) [(8, .bool ((decide (a0 < 0)) || (decide (4611686018427387903 < a0))))] ?_ ?_ ?_
 ·intro e2 hk2
  iterate 2 refine zn e2 ?_
  refine zk e2 ?_; exact hk2 _ (Fe e2)
 ·intro e2 hk2
  refine zy e2 ?_; refine zy e2 ?_; refine zk e2 ?_; exact hk2 _ (Fe e2)
 intro fr hl
 refine Lfr hl ?_
 refine zp ?_; refine z2 ?_; refine AW.ret ?_; exact bR1 results92 rfl ⟨_, rfl, h⟩
def f_ref01_Blob (B : World) (ro : AH) (a0 : Sl) (σ : AH) (Q : Sl → AH → Prop) : Prop :=
 c_ref01_Put B ro (a0.len : Int) σ fun u0 σ =>
 nw ro σ (.cells #[Sl.v u0, Sl.v a0] 30) fun u1 σ =>
 c_ref01_Join B ro (⟨some ⟨u1, 0, none⟩, 2, 2⟩ : Sl) σ fun u2 σ =>
 Q u2 σ
theorem ref01_Blob_ok {a0 : Sl} {Q : Sl → AH → Prop} (h : Sep ro σ → f_ref01_Blob B ro a0 σ Q) : c_ref01_Blob B ro a0 σ Q := by
 refine zb h func103 ntmps103 fun h => ?_; unfold f_ref01_Blob at h; refine z3 ?_; refine zp ?_; refine z4 ?_; refine zp ?_; refine zm (V_lenL rfl rfl underlying30 rfl rfl) ?_; refine zc func104 h ?_; rintro v σ ⟨u0, rfl, h⟩; refine zp ?_; refine zA (A_bsl (vs := [(0, Sl.v u0), (1, Sl.v a0)]) (cs := #[Sl.v u0, Sl.v a0]) rfl underlying208 ty30 (by decide) rfl rfl) h fun u1 h => ?_; refine zc func72 h ?_
 rintro v σ ⟨u2, rfl, h⟩; refine zp ?_; refine z2 ?_; refine AW.ret ?_; exact bR1 results103 rfl ⟨_, rfl, h⟩
def j2_ref01_Put (B : World) (ro : AH) (Q : Sl → AH → Prop) (u0 : Int) (u1 : Sl) (σ : AH) : Prop :=
 nw ro σ (.cells #[.int .u8 (IntKind.u8.wrap u0)] 5) fun u2 σ =>
 awp prog ro (Builtin.append_ #[30, 30] 30 #[Sl.v u1, Sl.v (⟨some ⟨u2, 0, none⟩, 1, 1⟩ : Sl)]) (fun v σ => ∃ (u3 : Sl), v = Sl.v u3 ∧
 Q u3 σ) σ
def l7_ref01_Put (B : World) (ro : AH) (Q : Sl → AH → Prop) : (Int × Sl) → AH → ((Int × Sl) → AH → Prop) → Prop := fun ⟨u0, u1⟩ σ Y7 =>
 if 128 ≤ u0 then
 nw ro σ (.cells #[.int .u8 (IntKind.u8.wrap (i64.wrap (128 + (Int.tmod u0 128))))] 5) fun u2 σ =>
 awp prog ro (Builtin.append_ #[30, 30] 30 #[Sl.v u1, Sl.v (⟨some ⟨u2, 0, none⟩, 1, 1⟩ : Sl)]) (fun v σ => ∃ (u3 : Sl), v = Sl.v u3 ∧
  Y7 (i64.wrap (Int.tdiv u0 128), u3) σ) σ
 else
 j2_ref01_Put B ro Q u0 u1 σ
def f_ref01_Put (B : World) (ro : AH) (a0 : Int) (σ : AH) (Q : Sl → AH → Prop) : Prop :=
 nw ro σ (.cells #[] 5) fun u0 σ =>
 lfpD (l7_ref01_Put B ro Q ) (a0, (⟨some ⟨u0, 0, none⟩, 0, 0⟩ : Sl)) σ
theorem ref01_Put_ok {a0 : Int} {Q : Sl → AH → Prop} (h : Sep ro σ → f_ref01_Put B ro a0 σ Q) : c_ref01_Put B ro a0 σ Q := by
 refine zb h func104 ntmps104 fun h => ?_; unfold f_ref01_Put at h; refine z3 ?_; refine zp ?_; refine z4 ?_; refine zA (A_bsl (vs := []) (cs := #[]) rfl underlying30 ty5 (by decide) rfl rfl) h fun u0 h => ?_; refine zp ?_; refine z2 ?_; refine AW.seqJ (fun fr σ => ∃ (u1 : Int) (u2 : Sl), FrLe [(0, .int .i64 u1), (3, Sl.v u2)] fr ∧ j2_ref01_Put B ro Q u1 u2 σ) ?_ ?_
 ·rintro fr σ ⟨u1, u2, hl, h⟩; refine AW.weaken ?_ hl (HLe.refl _)
  unfold j2_ref01_Put at h; refine z3 ?_; iterate 2 refine zp ?_
  refine zm (V_cvt rfl rfl underlying3 underlying5) ?_; refine zA (A_bsl (vs := [(0, .int .u8 (IntKind.u8.wrap u1))]) (cs := #[.int .u8 (IntKind.u8.wrap u1)]) rfl underlying30 ty5 (by decide) rfl rfl) h fun u3 h => ?_; refine zl (X_bi (s := Builtin.append_ #[30, 30] 30 #[Sl.v u2, Sl.v (⟨some ⟨u3, 0, none⟩, 1, 1⟩ : Sl)]) rfl rfl (fun _ => rfl) (awp_mono _ h ?_))
  rintro v σ ⟨u4, rfl, h⟩; refine zp ?_; refine z2 ?_; refine AW.ret ?_; exact bR1 results104 rfl ⟨_, rfl, h⟩
 refine AW.block ?_; refine ARound.loop (fr' := [(0, .int .i64 a0), (3, Sl.v (⟨some ⟨u0, 0, none⟩, 0, 0⟩ : Sl))]) ?_ FL
 refine h (fun ⟨u5, u6⟩ σ => ARound _ _ _ _ _ _ [(0, .int .i64 u5), (3, Sl.v u6)] σ) ?_
 rintro ⟨u5, u6⟩ σ Y7 hY7 h
 show AW _ _ _ _ _ _ _ _
 unfold l7_ref01_Put at h; dsimp only at h; refine AW.seq (z3 ?_); iterate 2 refine zp ?_
 refine z2 ?_; refine zi h (fun h => ?_) fun h => ?_
 rotate_left
 ·refine AW.exit ?_; refine thenE (thenE ?_); refine blockE ?_
  refine thenN ?_; exact ⟨_, _, FL, h⟩
 refine AW.skip ?_; refine thenN (AW.block (z3 ?_)); iterate 2 refine zp ?_
 refine zm (V_rem rfl rfl rfl (by decide)) ?_; refine zp ?_; refine zm (V_cvt rfl rfl underlying3 underlying5) ?_; refine zA (A_bsl (vs := [(0, .int .u8 (IntKind.u8.wrap (i64.wrap (128 + (Int.tmod u5 128)))))]) (cs := #[.int .u8 (IntKind.u8.wrap (i64.wrap (128 + (Int.tmod u5 128))))]) rfl underlying30 ty5 (by decide) rfl rfl) h fun u7 h => ?_; refine zl (X_bi (s := Builtin.append_ #[30, 30] 30 #[Sl.v u6, Sl.v (⟨some ⟨u7, 0, none⟩, 1, 1⟩ : Sl)]) rfl rfl (fun _ => rfl) (awp_mono _ h ?_))
 rintro v σ ⟨u8, rfl, h⟩; refine zp ?_; refine z2 (AW.reg ?_)
 refine zp ?_; refine zm (V_quo rfl rfl rfl (by decide)) ?_; refine zp ?_; refine Lnil (blockN (thenN ?_)); refine ARound.head (fr' := [(0, .int .i64 (i64.wrap (Int.tdiv u5 128))), (3, Sl.v u8)]) ?_ FL
 exact hY7 _ _ h
end G
namespace Zt
open Go SL G Pa Wi
variable {B : World} {ro σ σ' : AH} {tag tag' : Nat → Nat}
theorem u5'' : prog.underlying 5 = some (.int .u8) := by kernel_rfl
theorem forIn_bytes {P : Program} {f : Value → ByteArray → Sem (ForInStep ByteArray)} (hf : ∀ (c : UInt8) (r : ByteArray), f (vU c) r = Sem.pure (.yield (r.push c))) :
  ∀ (l : Str) (s : Str), (forIn (l.map vU) (S s) f : Sem ByteArray) = Sem.pure (S (s ++ l)) := by
 intro l
 induction l with
 | nil => intro s; simp; rfl
 | cons c l ih =>
  intro s
  simp only [List.map_cons, List.forIn_cons]
  rw [hf]
  show (match ForInStep.yield ((S s).push c) with | _ => _ : Sem ByteArray) = _
  have e : (S s).push c = S (s ++ [c]) := by unfold S; simp [ByteArray.push]
  show forIn (l.map vU) ((S s).push c) f = _
  rw [e, ih]
  simp
theorem awp_b2s {s : Sl} {l : Str} {K : Value → AH → Prop} (h : SL.Read ro σ s (l.map vU)) (hK : K (.string (S l)) σ) : awp prog ro (convert 30 9 (Sl.v s)) K σ := by
 unfold convert
 simp only [bind_def]
 rw [awp_underlying u30, awp_underlying u9]
 simp only [Sl.v]
 rw [awp_underlying u5'']
 simp only
 unfold Conv.bytesToString
 cases hs : s.a with
 | none =>
  have : l = [] := by have := h.2.1 hs; simpa using this
  subst this
  exact hK
 | some p =>
  simp only
  rw [h.1]
  refine (awp_bind _ _).2 ?_
  refine awp_loadCells (l.map vU) 0 #[] (cellsAt_of 0 fun j v hj => by rw [Nat.zero_add]; exact h.2.2 p hs j v hj) ?_
  simp only [List.nil_append, List.forIn_toArray, Array.empty_append]
  refine (awp_bind _ _).2 ?_
  refine cast (congrArg (fun z => awp prog ro z _ σ) (forIn_bytes (P := prog) ?_ l [])).symm ?_
  ·intro c r
   simp only [vU]
   show Sem.pure (ForInStep.yield (r.push (UInt8.ofNat (Int.toNat (c.toNat : Int))))) = _
   rw [Int.toNat_natCast]; simp
  ·exact hK
theorem same_ok {a b : Sl} {x y : Str} {Q : Bool → AH → Prop} (ha : SL.Read ro σ a (x.map vU)) (hb : SL.Read ro σ b (y.map vU)) (hQ : Q (decide (x = y)) σ) : c_ref01_Same B ro a b σ Q := by
 refine ref01_Same_ok fun _ => ?_
 unfold f_ref01_Same
 refine awp_b2s ha ⟨S x, rfl, awp_b2s hb ⟨S y, rfl, ?_⟩⟩
 rw [show decide (S x = S y) = decide (x = y) from by simp only [S_inj]]
 exact hQ
def wnode (a : Str × Bool) (p : Str × Nd) : Str × Bool := [p.2.ver, p.2.ctr, p.2.own].foldl wnum (wtext (wtext a p.1) p.2.data)
theorem wnum_bad (a : Str × Bool) (n : Int) (h : a.2 = true) : (wnum a n).2 = true := by unfold wnum; split <;> simp [h]
theorem wtext_bad (a : Str × Bool) (p : Str) (h : a.2 = true) : (wtext a p).2 = true := by unfold wtext; exact wnum_bad _ _ h
theorem wnode_bad (a : Str × Bool) (p : Str × Nd) (h : a.2 = true) : (wnode a p).2 = true := by
 unfold wnode
 simp only [List.foldl_cons, List.foldl_nil]
 exact wnum_bad _ _ (wnum_bad _ _ (wnum_bad _ _ (wtext_bad _ _ (wtext_bad _ _ h))))
theorem wtext_eq (a : Str × Bool) (p : Str) (h : p.length ≤ 4611686018427387903) : wtext a p = (a.1 ++ blob p, a.2) := by
 have hr : rightN (p.length : Int) = true := by simp [rightN]; omega
 unfold wtext wnum
 rw [if_pos hr]
 simp [blob]
theorem wnode_eq (a : Str × Bool) (p : Str × Nd) (h1 : p.1.length ≤ 4611686018427387903) (h2 : p.2.data.length ≤ 4611686018427387903) (h : numsOk p.2 = true) : wnode a p = (a.1 ++ encN p, a.2) := by
 unfold numsOk at h
 simp only [Bool.and_eq_true] at h
 unfold wnode
 rw [wtext_eq _ _ h1, wtext_eq _ _ h2]
 simp only [List.foldl_cons, List.foldl_nil]
 unfold wnum
 rw [if_pos h.1.1, if_pos h.1.2, if_pos h.2]
 simp [encN]
theorem wnode_no (a : Str × Bool) (p : Str × Nd) (h : numsOk p.2 = false) : (wnode a p).2 = true := by
 unfold wnode
 simp only [List.foldl_cons, List.foldl_nil]
 unfold numsOk at h
 by_cases h1 : rightN p.2.ver = true
 ·by_cases h2 : rightN p.2.ctr = true
  ·have h3 : ¬ rightN p.2.own = true := by simpa [h1, h2] using h
   unfold wnum; rw [if_neg h3]
  ·refine wnum_bad _ _ ?_
   unfold wnum; rw [if_neg h2]
 ·refine wnum_bad _ _ (wnum_bad _ _ ?_)
  unfold wnum; rw [if_neg h1]
theorem wnode_len (a : Str × Bool) (p : Str × Nd) : (wnode a p).1.length ≤ a.1.length + 45 + p.1.length + p.2.data.length := by
 unfold wnode
 simp only [List.foldl_cons, List.foldl_nil]
 have h1 := wtext_len a p.1
 have h2 := wtext_len (wtext a p.1) p.2.data
 have h3 := wnum_len (wtext (wtext a p.1) p.2.data) p.2.ver
 have h4 := wnum_len (wnum (wtext (wtext a p.1) p.2.data) p.2.ver) p.2.ctr
 have h5 := wnum_len (wnum (wnum (wtext (wtext a p.1) p.2.data) p.2.ver) p.2.ctr) p.2.own
 omega
theorem wfold_bad (x : St) (a : Str × Bool) (h : a.2 = true) : (x.foldl wnode a).2 = true := by
 induction x generalizing a with
 | nil => exact h
 | cons p x ih => exact ih _ (wnode_bad a p h)
theorem wfold (x : St) (hx : ∀ p ∈ x, p.1.length ≤ 4611686018427387903 ∧ p.2.data.length ≤ 4611686018427387903) (a : Str × Bool) :
  (x.all (fun p => numsOk p.2) = true → x.foldl wnode a = (a.1 ++ encL x, a.2)) ∧ (x.all (fun p => numsOk p.2) = false → (x.foldl wnode a).2 = true) := by
 induction x generalizing a with
 | nil => exact ⟨fun _ => by simp [encL], fun h => by simp at h⟩
 | cons p x ih =>
  have hp := hx p (by simp)
  have := ih (fun q hq => hx q (by simp [hq])) (wnode a p)
  refine ⟨fun h => ?_, fun h => ?_⟩
  ·simp only [List.all_cons, Bool.and_eq_true] at h
   rw [List.foldl_cons, this.1 h.2, wnode_eq a p hp.1 hp.2 h.1]
   simp [encL]
  ·rw [List.foldl_cons]
   cases hn : numsOk p.2 with
   | false => exact wfold_bad _ _ (wnode_no a p hn)
   | true => exact this.2 (by simpa [hn] using h)
theorem encode_ok {r T M : Nat} {bs : List Nat} {st : St} {Q : Sl → AH → Prop} (hr : r < 64) (hr0 : r ≠ 0) (hr1 : r ≠ 1) (hr6 : r ≠ 6) (hr3 : r ≠ 30) (h : TreeAt tag σ r T M bs st) (hl : ∀ p ∈ st, p.1.length ≤ 128 ∧ p.2.data.length ≤ 256) (hn : st.length ≤ 4294967296)
  (hQ : ∀ (s : Sl) (tag' : Nat → Nat) (σ' : AH), Step [30, 94, 1] ro tag σ tag' σ' → Row tag' σ' 6 5 s ((encS st).map vU) → Q s σ') : c_ztree_Tree_Encode B ro (some ⟨T, 0, none⟩) σ Q := by
 refine ztree_Tree_Encode_ok fun hs => ?_
 unfold f_ztree_Tree_Encode
 have hR : ∀ x ∈ [30, 94, 1], x % 64 ≠ r % 64 ∧ x ≠ 6 := fun x hx => by
  simp only [List.mem_cons, List.not_mem_nil, or_false] at hx
  omega
 refine newWriter_ok (tag := tag) (r := 30) fun W tag1 σ1 st1 b1 => ?_
 refine paths_ok (q := 22) (h.keep (st1 [])) (fun p hp => (hl p hp).1) (by omega) fun s tag2 σ2 ks st2 hpm hsrt hr2 => ?_
 have hks := srt_keys h.keys hpm hsrt
 have hsl : s.len = ks.length := by rw [hr2.len, List.length_map]
 have hkl : ks.length = (srt st).length := by rw [hks, List.length_map]
 have hkn : ks.length = st.length := by rw [hpm.length_eq, List.length_map]
 have hmem : ∀ p ∈ srt st, p.1.length ≤ 128 ∧ p.2.data.length ≤ 256 := fun p hp => hl p ((srt_perm st).mem_iff.1 hp)
 suffices ∀ (m j : Nat) (tag3 : Nat → Nat) (σ3 : AH), j + m = ks.length → Step [30, 94, 1] ro tag σ tag3 σ3 → TreeAt tag3 σ3 r T M bs st → Row tag3 σ3 22 9 s (ks.map Pa.vS) → (((srt st).take j).foldl wnode ([], false)).1.length ≤ 429 * j →
   BufAt tag3 σ3 30 W (((srt st).take j).foldl wnode ([], false)).1 (((srt st).take j).foldl wnode ([], false)).2 → lfpD (l6_ztree_Tree_Encode B ro (some ⟨T, 0, none⟩) (some ⟨W, 0, none⟩) s Q) (j : Int) σ3 from
  this _ 0 tag2 σ2 (Nat.zero_add _) ((st1 _).trans (st2 _)) ((h.keep (st1 [])).keep (st2 [])) hr2 (by simp) (b1.keep (st2 []))
 intro m
 induction m with
 | zero =>
  intro j tag3 σ3 hj hst hA hrow hlen hb
  refine lfpD.intro ?_
  unfold l6_ztree_Tree_Encode
  rw [if_neg (by omega)]
  unfold j2_ztree_Tree_Encode
  rw [List.take_of_length_le (by omega)] at hb hlen
  have hw := wfold (srt st) (fun p hp => by have := hmem p hp; omega) ([], false)
  have hes : encS st = if (srt st).all (fun p => numsOk p.2) = true then encL (srt st) else [] := rfl
  refine out_ok hb hst.sep (by omega) (fun hbad => ?_) fun hgood s' tag4 σ4 st4 r4 => ?_
  ·refine hQ _ tag3 σ3 hst ?_
   rw [hes, if_neg (fun hall => by rw [hw.1 hall] at hbad; cases hbad)]
   exact Row.nil 6 5
  ·refine hQ s' tag4 σ4 (hst.trans (st4 _)) ?_
   have hall : (srt st).all (fun p => numsOk p.2) = true := by
    cases e : (srt st).all (fun p => numsOk p.2) with
    | true => rfl
    | false => rw [hw.2 e] at hgood; cases hgood
   rw [hes, if_pos hall]
   rw [hw.1 hall] at r4
   simpa using r4
 | succ m ih =>
  intro j tag3 σ3 hj hst hA hrow hlen hb
  have hjl : j < ks.length := by omega
  have hjs : j < (srt st).length := by omega
  obtain ⟨pp, hpp, _, hget⟩ := Row.sget hrow hst.sep hjl
  have hs3 := hst.sep
  refine lfpD.intro ?_
  unfold l6_ztree_Tree_Encode
  rw [if_pos (by omega)]
  refine ⟨pp, hpp, by omega, by omega, S ks[j], by rw [Int.toNat_natCast]; exact hget j hjl, _, rfl, _, Row.cell1 hA.cell hs3, ?_⟩
  refine awp_lookup_str hA.map hs3 u126 u9 ty129 ?_
  have hkj : ks[j] = (srt st)[j].1 := by simp only [hks, List.getElem_map]
  have hnj : st.lookup ks[j] = some (srt st)[j].2 := by
   rw [lookup_iff h.keys, ← (srt_perm st).mem_iff, hkj]
   exact List.getElem_mem hjs
  have hdl := hmem _ (List.getElem_mem hjs)
  rcases kv_lookup st bs ks[j] h.len with ⟨a, _⟩ | ⟨i, b, n, a1, a2, a3, e⟩
  ·rw [hnj] at a; cases a
  ·rw [e]
   rw [hnj] at a3
   have hn : n = (srt st)[j].2 := (Option.some.inj a3).symm
   refine ⟨some ⟨b, 0, none⟩, rfl, ?_⟩
   refine nw_cells (tag := tag3) 0 hs3 fun x tag4 σ4 st4 r4 => ?_
   refine texts1_ok (r := 30) (q := 0) (p := ks[j]) (hb.keep (st4 [])) (by decide) (by decide) (st4 []).sep (by rw [hkj]; omega) r4 fun tag5 σ5 st5 b5 => ?_
   have hA5 := (hA.keep (st4 [])).keep st5 hR
   obtain ⟨ds, hn1, hn2⟩ := hA5.nodes i b _ a1 a2
   obtain ⟨q5, hq5, hg5⟩ := hn1.ptr st5.sep (by simp)
   cases hq5
   refine ⟨_, rfl, ds, hg5 4 _ rfl, ?_⟩
   refine nw_cells (tag := tag5) 0 st5.sep fun y tag6 σ6 st6 r6 => ?_
   have hn26 := hn2.keep (st6 [])
   have hdn : n.data.length ≤ 256 := by rw [hn]; exact hdl.2
   have l5 := wtext_len (((srt st).take j).foldl wnode ([], false)) ks[j]
   refine blobs1_ok (r := 30) (q := 0) (p := n.data) (b5.keep (st6 [])) (by decide) (by decide) (st6 []).sep (by rw [hkj] at l5 ⊢; omega) r6 (by rw [hn2.len, List.length_map]) (fun tag7 σ7 st7 => (hn26.keep st7 (by decide)).read st7.sep) fun tag7 σ7 st7 b7 => ?_
   have hA7 := (hA5.keep (st6 [])).keep st7 hR
   obtain ⟨ds7, hn17, hn27⟩ := hA7.nodes i b _ a1 a2
   obtain ⟨q7, hq7, hg7⟩ := hn17.ptr st7.sep (by simp)
   cases hq7
   refine ⟨_, rfl, _, rfl, _, rfl, n.ver, hg7 0 _ rfl, n.ctr, hg7 1 _ rfl, n.own, hg7 2 _ rfl, ?_⟩
   refine nw_cells (tag := tag7) 0 st7.sep fun z tag8 σ8 st8 r8 => ?_
   have l7 := wtext_len (wtext (((srt st).take j).foldl wnode ([], false)) ks[j]) n.data
   refine nums_ok (r := 30) (q := 0) (ns := [n.ver, n.ctr, n.own]) (by decide) (by decide) (b7.keep (st8 [])) (st8 []).sep (by rw [hkj] at l5 l7 ⊢; simp; omega) r8 fun tag9 σ9 st9 b9 => ?_
   rw [Pa.inc j (by omega)]
   have e1 : ((srt st).take (j + 1)).foldl wnode ([], false) = [n.ver, n.ctr, n.own].foldl wnum (wtext (wtext (((srt st).take j).foldl wnode ([], false)) ks[j]) n.data) := by
    rw [List.take_add_one, List.getElem?_eq_getElem hjs, List.foldl_append, hn, hkj]; rfl
   have l9 := wnode_len (((srt st).take j).foldl wnode ([], false)) (srt st)[j]
   have e2 : wnode (((srt st).take j).foldl wnode ([], false)) (srt st)[j] = ((srt st).take (j + 1)).foldl wnode ([], false) := by
    rw [List.take_add_one, List.getElem?_eq_getElem hjs, List.foldl_append]; rfl
   refine ih (j + 1) tag9 σ9 (by omega) (((((((hst.trans (st4 _)).trans st5).trans (st6 _)).trans st7).trans (st8 _)).trans st9)) ((hA7.keep (st8 [])).keep st9 hR) ((((((hrow.keep (st4 [])).keep st5 (by decide)).keep (st6 [])).keep st7 (by decide)).keep (st8 [])).keep st9 (by decide)) ?_ ?_
   ·rw [← e2]; omega
   ·rw [e1]; exact b9
end Zt
namespace Wi
open Go SL G Zt
variable {B : World} {ro σ σ' : AH} {tag tag' : Nat → Nat}
def Tail (tag : Nat → Nat) (σ : AH) (q : Nat) (s : Sl) (l : Str) : Prop :=
 (s = ⟨none, 0, 0⟩ ∧ l = []) ∨ ∃ (g : Nat) (cs : Array Value) (k : Nat), s.a = some ⟨g, k, none⟩ ∧ tag g = q ∧ σ g = some (.cells cs 5) ∧ s.len = l.length ∧ s.len ≤ s.cap ∧ ∀ (i : Nat) (c : UInt8), l[i]? = some c → cs[k + i]? = some (vU c)
theorem Tail.len {q : Nat} {s : Sl} {l : Str} (h : Tail tag σ q s l) : s.len = l.length := by
 rcases h with ⟨rfl, rfl⟩ | ⟨_, _, _, _, _, _, h, _⟩
 ·rfl
 ·exact h
theorem Tail.cap {q : Nat} {s : Sl} {l : Str} (h : Tail tag σ q s l) : s.len ≤ s.cap := by
 rcases h with ⟨rfl, rfl⟩ | ⟨_, _, _, _, _, _, _, h, _⟩
 ·exact Nat.le_refl _
 ·exact h
theorem Tail.keep {R : List Nat} {q : Nat} {s : Sl} {l : Str} (h : Tail tag σ q s l) (k : Step R ro tag σ tag' σ') (hr : q ∉ R := by simp) : Tail tag' σ' q s l := by
 rcases h with h | ⟨g, cs, o, ha, ht, hb, hx⟩
 ·exact .inl h
 ·obtain ⟨t, e⟩ := k.keep g _ hb (by rw [ht]; exact hr)
  exact .inr ⟨g, cs, o, ha, t.trans ht, e, hx⟩
theorem Tail.of_row {q : Nat} {s : Sl} {l : Str} (h : Row tag σ q 5 s (l.map vU)) : Tail tag σ q s l := by
 rcases h with ⟨rfl, h⟩ | ⟨b, cs, ha, ht, hb, hln, hc, hle, hg⟩
 ·exact .inl ⟨rfl, by simpa using h⟩
 ·refine .inr ⟨b, cs, 0, ha, ht, hb, by rw [hln, List.length_map], hle, fun i c hi => ?_⟩
  have hil : i < l.length := by
   rcases Nat.lt_or_ge i l.length with h | h
   ·exact h
   ·rw [List.getElem?_eq_none h] at hi; cases hi
  rw [Nat.zero_add, hg i (by simpa using hil), List.getElem?_map, hi]; rfl
theorem Tail.read {q : Nat} {s : Sl} {l : Str} (h : Tail tag σ q s l) (hs : SL.Sep ro σ) : SL.Read ro σ s (l.map vU) := by
 refine ⟨by rw [h.len, List.length_map], fun hn => ?_, fun p hp i v hv => ?_⟩
 ·rcases h with ⟨_, rfl⟩ | ⟨_, _, _, ha, _⟩
  ·rfl
  ·rw [hn] at ha; cases ha
 ·rcases h with ⟨rfl, _⟩ | ⟨g, cs, k, ha, ht, hb, hln, hle, hg⟩
  ·cases hp
  ·rw [hp] at ha; cases ha
   rw [List.getElem?_map] at hv
   obtain ⟨c, hc, rfl⟩ := Option.map_eq_some_iff.1 hv
   unfold acell rd
   simp only [add_add, hs g _ hb, hb, cellOf]
   exact hg i c hc
theorem Tail.drop {q e : Nat} {s : Sl} {l : Str} (h : Tail tag σ q s l) (he : e ≤ l.length) : Tail tag σ q ⟨cutA s.a e s.cap 1, s.len - e, s.cap - e⟩ (l.drop e) := by
 rcases h with ⟨rfl, rfl⟩ | ⟨g, cs, k, ha, ht, hb, hln, hle, hg⟩
 ·have : e = 0 := by simpa using he
  subst this
  exact .inl ⟨by simp [cutA], rfl⟩
 ·unfold cutA
  by_cases hc : s.cap = e
  ·rw [if_pos hc]
   refine .inr ⟨g, cs, k, ha, ht, hb, by simp; omega, by simp; omega, fun i c hi => ?_⟩
   rw [List.drop_of_length_le (by omega)] at hi; cases hi
  ·rw [if_neg hc]
   refine .inr ⟨g, cs, k + e, by simp [ha, add_add], ht, hb, by simp; omega, by simp; omega, fun i c hi => ?_⟩
   rw [List.getElem?_drop] at hi
   rw [Nat.add_assoc]; exact hg (e + i) c hi
theorem Tail.takeR {q n : Nat} {s : Sl} {l : Str} (h : Tail tag σ q s l) (hs : SL.Sep ro σ) (hn : n ≤ l.length) : SL.Read ro σ ⟨cutA s.a 0 s.cap 1, n - 0, s.cap - 0⟩ ((l.take n).map vU) := by
 have hr := h.read hs
 rw [cutA_zero]
 refine ⟨by simp; omega, fun ha => ?_, fun p hp i v hv => ?_⟩
 ·have := hr.2.1 ha
  have : l = [] := by simpa using this
  rw [this]; simp
 ·refine hr.2.2 p hp i v ?_
  rw [List.map_take, List.getElem?_take] at hv
  split at hv
  ·exact hv
  ·cases hv
def RdAt (tag : Nat → Nat) (σ : AH) (r A : Nat) (x : Rd) : Prop :=
 ∃ s : Sl, Row tag σ r 213 ⟨some ⟨A, 0, none⟩, 2, 2⟩ [Sl.v s, Zt.vI x.err] ∧ Tail tag σ 6 s x.rest ∧ x.rest.length ≤ 140737488355328
theorem RdAt.keep {R : List Nat} {r A : Nat} {x : Rd} (h : RdAt tag σ r A x) (k : Step R ro tag σ tag' σ') (h1 : r ∉ R := by simp) (h2 : 6 ∉ R := by simp) : RdAt tag' σ' r A x := by
 obtain ⟨s, a, b, c⟩ := h
 exact ⟨s, a.keep k h1, b.keep k h2, c⟩
theorem RdAt.keepC {c r A : Nat} {x : Rd} (h : RdAt tag σ r A x) (k : StepC c ro tag σ tag' σ') (hr : r % 64 ≠ c := by decide) (h6 : c ≠ 6 := by decide) : RdAt tag' σ' r A x := by
 obtain ⟨R, h1, h2⟩ := k
 exact h.keep h2 (fun m => hr (h1 _ m)) (fun m => h6 (h1 _ m).symm)
theorem newReader_ok {r : Nat} {a : Sl} {b : Str} {Q : Option Addr → AH → Prop} (h : SL.Read ro σ a (b.map vU)) (hs : SL.Sep ro σ) (hl : b.length ≤ 140737488355328) (hQ : ∀ A tag' σ', (∀ R, Step R ro tag σ tag' σ') → RdAt tag' σ' r A ⟨b, 0⟩ → Q (some ⟨A, 0, none⟩) σ') :
  c_wire_NewReader B ro a σ Q := by
 refine wire_NewReader_ok fun _ => ?_
 unfold f_wire_NewReader
 refine clone_ok (tag := tag) h hs (by simp; omega) (vU_st _) fun s tag1 σ1 st1 r1 => ?_
 refine nw_cells (tag := tag1) r (st1 []).sep fun A tag2 σ2 st2 r2 => ?_
 exact hQ A tag2 σ2 (fun R => (st1 R).trans (st2 R)) ⟨s, r2, Tail.of_row (r1.keep (st2 [])), hl⟩
theorem left_ok {r A : Nat} {x : Rd} {Q : Int → AH → Prop} (h : RdAt tag σ r A x) (hs : SL.Sep ro σ) (hQ : Q (x.rest.length : Nat) σ) : c_wire_Reader_Left B ro (some ⟨A, 0, none⟩) σ Q := by
 refine wire_Reader_Left_ok fun _ => ?_
 unfold f_wire_Reader_Left
 obtain ⟨s, a, b, c⟩ := h
 obtain ⟨p, hp, hg⟩ := a.ptr hs (by simp)
 cases hp
 refine ⟨_, rfl, s, hg 0 _ rfl, ?_⟩
 rw [b.len]; exact hQ
theorem rerr_ok {r A : Nat} {x : Rd} {Q : Int → AH → Prop} (h : RdAt tag σ r A x) (hs : SL.Sep ro σ) (hQ : Q x.err σ) : c_wire_Reader_Err B ro (some ⟨A, 0, none⟩) σ Q := by
 refine wire_Reader_Err_ok fun _ => ?_
 unfold f_wire_Reader_Err
 obtain ⟨s, a, b, c⟩ := h
 obtain ⟨p, hp, hg⟩ := a.ptr hs (by simp)
 cases hp
 exact ⟨_, rfl, x.err, hg 1 _ rfl, hQ⟩
theorem rdNum_ok {r A : Nat} {x : Rd} {Q : Int → AH → Prop} (h : RdAt tag σ r A x) (h6 : r ≠ 6) (hs : SL.Sep ro σ) (hQ : ∀ σ', Step [r] ro tag σ tag σ' → RdAt tag σ' r A (rnum x).2 → Q ((rnum x).1 : Nat) σ') : c_wire_Reader_Num B ro (some ⟨A, 0, none⟩) σ Q := by
 refine wire_Reader_Num_ok fun _ => ?_
 unfold f_wire_Reader_Num
 obtain ⟨s, a, b, c⟩ := id h
 obtain ⟨p, hp, hg⟩ := a.ptr hs (by simp)
 cases hp
 refine ⟨_, rfl, x.err, hg 1 _ rfl, ?_⟩
 by_cases he : x.err = 0
 ·rw [if_neg (by simpa using he)]
  refine ⟨_, rfl, s, hg 0 _ rfl, ?_⟩
  refine number_ok (b.read hs) c ?_
  have hrn : rnum x = ((num x.rest).1, ⟨x.rest.drop (num x.rest).2.1, (num x.rest).2.2⟩) := by unfold rnum; rw [if_neg (by simpa using he)]
  rw [hrn] at hQ
  have hle := num_le x.rest
  have hln := b.len
  have hcp := b.cap
  refine ⟨_, rfl, ?_⟩
  refine a.st (i := 1) hs rfl (by simp) rfl fun σ1 st1 r1 => ?_
  obtain ⟨p1, hp1, hg1⟩ := r1.ptr st1.sep (by simp)
  cases hp1
  refine ⟨_, rfl, s, hg1 0 _ rfl, ⟨trivial, by omega, by simp only [cutHi]; omega⟩, _, rfl, ?_⟩
  rw [Int.toNat_natCast]
  refine r1.st (i := 0) st1.sep rfl (by simp) rfl fun σ2 st2 r2 => ?_
  refine hQ σ2 (st1.trans st2) ⟨_, r2, ((b.drop hle.1).keep st1 (by simpa using fun h => h6 h.symm)).keep st2 (by simpa using fun h => h6 h.symm), by simp; omega⟩
 ·rw [if_pos (by simpa using he)]
  rw [rnum_bad he] at hQ
  exact hQ σ (Step.refl hs) h
theorem rdBlob_ok {r A : Nat} {x : Rd} {Q : Sl → AH → Prop} (h : RdAt tag σ r A x) (h6 : r ≠ 6) (hs : SL.Sep ro σ)
  (hQ : ∀ s tag' σ', Step [r] ro tag σ tag' σ' → Row tag' σ' 6 5 s ((rblob x).1.map vU) → RdAt tag' σ' r A (rblob x).2 → Q s σ') : c_wire_Reader_Blob B ro (some ⟨A, 0, none⟩) σ Q := by
 refine wire_Reader_Blob_ok fun _ => ?_
 unfold f_wire_Reader_Blob
 obtain ⟨s, a, b, c⟩ := id h
 obtain ⟨p, hp, hg⟩ := a.ptr hs (by simp)
 cases hp
 refine ⟨_, rfl, s, hg 0 _ rfl, ?_⟩
 refine rdNum_ok h h6 hs fun σ1 st1 h1 => ?_
 have h61 : 6 ∉ [r] := by simpa using fun h => h6 h.symm
 obtain ⟨s1, a1, b1, c1⟩ := id h1
 obtain ⟨p1, hp1, hg1⟩ := a1.ptr st1.sep (by simp)
 cases hp1
 refine ⟨_, rfl, _, hg1 1 _ rfl, ?_⟩
 by_cases he : (rnum x).2.err = 0
 ·rw [if_neg (by simpa using he)]
  refine ⟨_, rfl, s1, hg1 0 _ rfl, ?_⟩
  have hln1 := b1.len
  have hcp1 := b1.cap
  by_cases hlt : (rnum x).2.rest.length < (rnum x).1
  ·rw [if_pos (by omega)]
   have hrb : rblob x = ([], ⟨x.rest, 12⟩) := by unfold rblob; rw [if_neg (by simpa using he), if_pos hlt]
   rw [hrb] at hQ
   refine ⟨_, rfl, ?_⟩
   refine a1.st (i := 1) st1.sep rfl (by simp) rfl fun σ2 st2 r2 => ?_
   refine ⟨_, rfl, ?_⟩
   refine r2.st (i := 0) st2.sep rfl (by simp) rfl fun σ3 st3 r3 => ?_
   exact hQ ⟨none, 0, 0⟩ tag σ3 (st1.trans (st2.trans st3)) (Row.nil 6 5) ⟨s, r3, ((b.keep st1 h61).keep st2 h61).keep st3 h61, c⟩
  ·rw [if_neg (by omega)]
   have hrb : rblob x = ((rnum x).2.rest.take (rnum x).1, ⟨(rnum x).2.rest.drop (rnum x).1, 0⟩) := by unfold rblob; rw [if_neg (by simpa using he), if_neg hlt]
   rw [hrb] at hQ
   refine ⟨_, rfl, s1, hg1 0 _ rfl, ⟨⟨by omega, by omega⟩, trivial⟩, ?_⟩
   rw [Int.toNat_natCast]
   refine clone_ok (tag := tag) (b1.takeR st1.sep (by omega)) st1.sep (by simp; omega) (vU_st _) fun s2 tag2 σ2 st2 r2 => ?_
   have a2 := a1.keep (st2 [])
   obtain ⟨p2, hp2, hg2⟩ := a2.ptr (st2 []).sep (by simp)
   cases hp2
   refine ⟨_, rfl, s1, hg2 0 _ rfl, ⟨trivial, by omega, by simp only [cutHi]; omega⟩, _, rfl, ?_⟩
   refine a2.st (i := 0) (st2 []).sep rfl (by simp) rfl fun σ3 st3 r3 => ?_
   rw [he] at r3
   refine hQ s2 tag2 σ3 (st1.trans ((st2 _).trans st3)) (r2.keep st3 h61) ⟨_, r3, ((b1.drop (by omega)).keep (st2 [])).keep st3 h61, by simp; omega⟩
 ·rw [if_pos (by simpa using he)]
  have hrb : rblob x = ([], (rnum x).2) := by unfold rblob; rw [if_pos (by simpa using he)]
  rw [hrb] at hQ
  exact hQ ⟨none, 0, 0⟩ tag σ1 st1 (Row.nil 6 5) h1
theorem rdText_ok {r A : Nat} {x : Rd} {Q : ByteArray → AH → Prop} (h : RdAt tag σ r A x) (h6 : r ≠ 6) (hs : SL.Sep ro σ)
  (hQ : ∀ tag' σ', Step [r] ro tag σ tag' σ' → RdAt tag' σ' r A (rblob x).2 → Q (S (rblob x).1) σ') : c_wire_Reader_Text B ro (some ⟨A, 0, none⟩) σ Q := by
 refine wire_Reader_Text_ok fun _ => ?_
 unfold f_wire_Reader_Text
 refine rdBlob_ok h h6 hs fun s tag1 σ1 st1 r1 h1 => ?_
 exact awp_b2s (r1.read st1.sep) ⟨_, rfl, hQ tag1 σ1 st1 h1⟩
end Wi
namespace SL
open Go
variable {P : Program} {B : World} {ro σ σ' : AH} {tag tag' : Nat → Nat}
theorem awp_choose2 {β : Type} {q : Question} {f : Nat → Sem β} {Q : β → AH → Prop} (h0 : q.forced = true → awp P ro (f 0) Q σ) (h1 : q.forced = false → ∀ n, awp P ro (f (q.cut n)) Q σ) : awp P ro (Sem.bind (choose q) f) Q σ := by
 show (if q.forced then awp P ro (f 0) Q σ else ∀ n, awp P ro (f (q.cut n)) Q σ)
 split
 ·rename_i h; exact h0 h
 ·rename_i h; exact h1 (by simpa using h)
theorem awp_range_map {t kt et : TypeId} {r M : Nat} {m : KV} {K : Value → AH → Prop} (ht : P.underlying t = some (.map kt et)) (hm : MapIs tag σ r M m) (hs : Sep ro σ)
  (hK : ∀ (es : Array MapEntry) (clock x : Nat), σ M = some (.map es clock) → es.toList.map entV = m.map pairV → Born es clock → ro x = none → σ x = none → K (.pointer (some ⟨x, 0, none⟩)) (upd σ x (.mapIter (some M) clock #[] clock))) :
  awp P ro (Instr.range t (.map (some M))) K σ := by
 obtain ⟨es, clock, hb, he, hbn⟩ := hm.obj
 unfold Instr.range
 simp only [bind_def]
 rw [awp_underlying ht]
 refine ⟨.map es clock, by unfold rd; rw [hs M _ hb]; exact hb, rfl, ?_⟩
 intro x hro hx
 exact hK es clock x hb he hbn hro hx
theorem awp_next_map {ty : TypeId} {x M clock : Nat} {seen : Array Nat} {es : Array MapEntry} {K : Value → AH → Prop} (hx : σ x = some (.mapIter (some M) clock seen clock)) (hm : σ M = some (.map es clock)) (hs : Sep ro σ) (hb : Born es clock)
  (hover : (∀ e ∈ es.toList, seen.contains e.born = true) → K (.tuple #[.bool false]) σ)
  (hstep : ∀ e ∈ es.toList, seen.contains e.born = false → K (.tuple #[.bool true, e.key, e.val]) (upd σ x (.mapIter (some M) clock (seen.push e.born) clock))) :
  awp P ro (Instr.next (.pointer (some ⟨x, 0, none⟩)) false ty) K σ := by
 unfold Instr.next
 refine ⟨.mapIter (some M) clock seen clock, by unfold rd; rw [hs x _ hx]; exact hx, rfl, ?_⟩
 refine ⟨.map es clock, by unfold rd; rw [hs M _ hm]; exact hm, rfl, ?_⟩
 have hall : (!seen.isEmpty && !es.isEmpty && es.all fun e => decide (e.born ≥ clock)) = false := by
  cases he : es.isEmpty with
  | true => simp
  | false =>
   have hne : 0 < es.size := by
    rcases Nat.eq_zero_or_pos es.size with h | h
    ·have : es = #[] := Array.eq_empty_of_size_eq_zero h
     rw [this] at he; cases he
    ·exact h
   have h0 := hb.lt es[0] (by simp)
   have : (es.all fun e => decide (e.born ≥ clock)) = false := by
    rw [← Bool.not_eq_true, Array.all_eq_true]
    intro h
    have := h 0 hne
    simp only [decide_eq_true_eq] at this
    omega
   rw [this]; simp
 show awp P ro (if _ then _ else _) K σ
 rw [if_neg (by rw [hall]; simp)]
 have hold : ((es.filter fun e => !seen.contains e.born).filter fun e => decide (e.born < clock)) = es.filter fun e => !seen.contains e.born := by
  rw [Array.filter_eq_self]
  intro e he
  have := hb.lt e (by have := (Array.mem_filter.1 he).1; simpa using this)
  simpa using this
 have hnew : ((es.filter fun e => !seen.contains e.born).filter fun e => decide (e.born ≥ clock)) = #[] := by
  rw [Array.filter_eq_empty_iff]
  intro e he
  have := hb.lt e (by have := (Array.mem_filter.1 he).1; simpa using this)
  simp; omega
 simp only [hold, hnew, Array.append_empty]
 generalize hleft : (es.filter fun e => !seen.contains e.born) = left
 have hmem : ∀ e, e ∈ left ↔ e ∈ es.toList ∧ seen.contains e.born = false := fun e => by
  rw [← hleft, Array.mem_filter]; simp
 by_cases hemp : left = #[]
 ·subst hemp
  have e1 : ((if (#[] : Array MapEntry).isEmpty = true then (#[none] : Array (Option MapEntry)) else #[]) ++ (#[] : Array MapEntry).map some) = #[none] := by simp
  rw [e1]
  refine awp_choose2 (fun _ => ?_) (fun h => absurd h (by decide))
  show K (Value.tuple #[.bool false]) σ
  refine hover fun e he => ?_
  cases h : seen.contains e.born with
  | true => rfl
  | false => exact absurd ((hmem e).2 ⟨he, h⟩) (by simp)
 ·have hsz : 0 < left.size := by
   rcases Nat.eq_zero_or_pos left.size with h | h
   ·exact absurd (Array.eq_empty_of_size_eq_zero h) hemp
   ·exact h
  have hie : left.isEmpty = false := by simp [Array.isEmpty]; omega
  rw [if_neg (by rw [hie]; simp)]
  have hcand : (#[] : Array (Option MapEntry)) ++ left.map some = left.map some := by simp
  rw [hcand]
  have step : ∀ i, i < left.size → awp P ro (match (left.map some)[i]? with
    | some (some e) => Sem.bind (setObj x (.mapIter (some M) clock (seen.push e.born) clock)) fun _ => Sem.pure (Value.tuple #[.bool true, e.key, e.val])
    | some none => Sem.pure (Value.tuple #[.bool false])
    | none => stuck "Next: no such candidate") K σ := fun i hi => by
   rw [Array.getElem?_map, Array.getElem?_eq_getElem hi]
   simp only [Option.map_some]
   have hin := (hmem left[i]).1 (Array.getElem_mem hi)
   exact ⟨.mapIter (some M) clock seen clock, hx, rfl, hstep left[i] hin.1 hin.2⟩
  refine awp_choose2 (fun _ => step 0 hsz) (fun _ n => step _ ?_)
  simp only [Question.cut, Array.size_map]
  exact Nat.mod_lt _ hsz
theorem awp_entry_map {x M clock : Nat} {seen : Array Nat} {es : Array MapEntry} {e : MapEntry} {K : Value → AH → Prop} (hx : σ x = some (.mapIter (some M) clock (seen.push e.born) clock)) (hm : σ M = some (.map es clock)) (hs : Sep ro σ) (hb : Born es clock) (he : e ∈ es.toList)
  (hK : K (.tuple #[e.key, e.val]) σ) : awp P ro (Instr.entry (.pointer (some ⟨x, 0, none⟩))) K σ := by
 have hfind : es.find? (·.born == e.born) = some e := by
  rw [← Array.find?_toList]
  have hnd := hb.nd
  have hin := he
  generalize es.toList = l at hnd hin
  induction l with
  | nil => cases hin
  | cons y l ih =>
   simp only [List.map_cons, List.nodup_cons] at hnd
   rw [List.find?_cons]
   rcases List.mem_cons.1 hin with h | h
   ·rw [h]; simp
   ·have hne : y.born ≠ e.born := fun hh => hnd.1 (List.mem_map.2 ⟨e, h, hh.symm⟩)
    rw [show (y.born == e.born) = false by simpa using hne]
    exact ih hnd.2 h
 unfold Instr.entry
 refine ⟨.mapIter (some M) clock (seen.push e.born) clock, by unfold rd; rw [hs x _ hx]; exact hx, rfl, ?_⟩
 simp only [bind_pure', Array.back?_push]
 refine ⟨.map es clock, by unfold rd; rw [hs M _ hm]; exact hm, rfl, ?_⟩
 show awp P ro (if _ then _ else _) K σ
 rw [if_neg (by simp)]
 show awp P ro (match es.find? (·.born == e.born) with | some e => _ | none => _) K σ
 rw [hfind]
 exact hK
theorem filter_le' {α : Type} {p q : α → Bool} (hpq : ∀ a, q a = true → p a = true) : ∀ (l : List α), (l.filter q).length ≤ (l.filter p).length := by
 intro l
 induction l with
 | nil => exact Nat.le_refl _
 | cons y l ih =>
  rw [List.filter_cons, List.filter_cons]
  split
  ·rename_i h; rw [if_pos (hpq y h)]; simp only [List.length_cons]; omega
  ·split
   ·simp only [List.length_cons]; omega
   ·exact ih
theorem filter_lt' {α : Type} {p q : α → Bool} (hpq : ∀ a, q a = true → p a = true) {e : α} (hp : p e = true) (hq : q e = false) : ∀ {l : List α}, e ∈ l → (l.filter q).length < (l.filter p).length := by
 intro l
 induction l with
 | nil => intro h; cases h
 | cons y l ih =>
  intro h
  rw [List.filter_cons, List.filter_cons]
  rcases List.mem_cons.1 h with h | h
  ·rw [← h, hp, hq]
   have := filter_le' hpq l
   simp only [if_true, List.length_cons]
   simp; omega
  ·have := ih h
   split
   ·rename_i h1; rw [if_pos (hpq y h1)]; simp only [List.length_cons]; omega
   ·split
    ·simp only [List.length_cons]; omega
    ·exact this
def unmet (es : Array MapEntry) (seen : Array Nat) : Nat := (es.toList.filter fun e => !seen.contains e.born).length
theorem unmet_push {es : Array MapEntry} {seen : Array Nat} {e : MapEntry} (he : e ∈ es.toList) (hn : seen.contains e.born = false) : unmet es (seen.push e.born) < unmet es seen := by
 unfold unmet
 refine filter_lt' (fun a ha => ?_) (e := e) (by rw [hn]; rfl) (by rw [Array.contains_push]; simp) he
 rw [Array.contains_push] at ha
 cases h : seen.contains a.born with
 | true => rw [h] at ha; simp at ha
 | false => rfl
end SL
namespace Zt
open Go SL G Pa Wi
variable {B : World} {ro σ σ' : AH} {tag tag' : Nat → Nat}
theorem lessS_iff (a b : ByteArray) : lessS a b = true ↔ L a < L b := by
 unfold lessS
 rw [Go.Proofs.bytesLess_eq, ByteArray.toList_eq, ByteArray.toList_eq]
 simp [L]
theorem le_iff_lessS (a b : ByteArray) : (lessS a b = true ∨ a = b) ↔ L a ≤ L b := by
 rw [lessS_iff, List.le_iff_lt_or_eq]
 constructor
 ·rintro (h | h)
  ·exact .inl h
  ·exact .inr (by rw [h])
 ·rintro (h | h)
  ·exact .inl h
  ·exact .inr (L_inj h)
theorem TreeAt.add2 {r T M b : Nat} {bs : List Nat} {st : St} {q : Str} {n : Nd} {tag2 : Nat → Nat} {σ2 : AH} (h : TreeAt tag σ r T M bs st) (hr : r < 64) (hr6 : r ≠ 6) (hq : st.lookup q = none) (hnb : b ∉ bs) (k : Step [r + 64] ro tag σ tag2 σ2) (hnew : NodeAt tag2 σ2 r b n) (hm : MapIs tag2 σ2 (r + 64) M (mput (kv st bs) q (ptr b))) : TreeAt tag2 σ2 r T M (bs ++ [b]) (st ++ [(q, n)]) := by
 refine ⟨?_, by simp [h.len], ?_, h.cell.keep k, ?_, fun i c p hc hp => ?_⟩
 ·rw [List.map_append, List.nodup_append]
  refine ⟨h.keys, by simp, ?_⟩
  intro x hx y hy
  simp at hy
  intro e
  exact lookup_none hq (by rw [← hy, ← e]; exact hx)
 ·rw [List.nodup_append]
  refine ⟨h.nd, by simp, ?_⟩
  intro x hx y hy
  simp at hy
  intro e
  exact hnb (by rw [← hy, ← e]; exact hx)
 ·rw [kv_app _ _ _ _ _ h.len, ← kv_mput _ _ _ _ h.len hq]; exact hm
 ·rcases Nat.lt_or_ge i bs.length with hi | hi
  ·rw [List.getElem?_append_left hi] at hc
   rw [List.getElem?_append_left (by rw [← h.len]; exact hi)] at hp
   exact (h.nodes i c p hc hp).keep k (by simp <;> omega) (by simp)
  ·rw [List.getElem?_append_right hi] at hc
   rw [List.getElem?_append_right (by rw [← h.len]; exact hi), ← h.len] at hp
   cases hd : i - bs.length with
   | zero =>
    rw [hd] at hc hp
    cases hc; cases hp
    exact hnew
   | succ j => rw [hd] at hc; cases hc
theorem lay_ok {r T M b : Nat} {bs : List Nat} {st : St} {p last : ByteArray} {n : Nd} {Q : Bool → AH → Prop} (g : Glob ro) (hr : r < 64) (hr6 : r ≠ 6) (hr0 : r ≠ 0) (h : TreeAt tag σ r T M bs st) (hn : NodeAt tag σ r b n) (hnb : b ∉ bs)
  (hk : ∀ x ∈ st, x.1 ≤ L last) (hne : ∀ x ∈ st, x.1 ≠ [])
  (hno : lay st (L last) (L p) n = none → ∀ tag' σ', StepC r ro tag σ tag' σ' → Q false σ') (hyes : ∀ st', lay st (L last) (L p) n = some st' → ∀ tag' σ', StepC r ro tag σ tag' σ' → (∃ bs', TreeAt tag' σ' r T M bs' st' ∧ ∀ x ∈ bs', x ∈ bs ∨ x = b) → Q true σ') :
  c_ztree_Tree_lay B ro (some ⟨T, 0, none⟩) p last (some ⟨b, 0, none⟩) σ Q := by
 refine ztree_Tree_lay_ok fun hs => ?_
 unfold f_ztree_Tree_lay
 obtain ⟨ds, hn1, hn2⟩ := id hn
 obtain ⟨pb, hpb, hg⟩ := hn1.ptr hs (by simp)
 cases hpb
 have dlen : ds.len = n.data.length := by rw [hn2.len, List.length_map]
 let bad : Prop := parts (L p) = none ∨ L p ≤ L last ∨ 256 < n.data.length ∨ 10000000000 < n.ctr ∨ (n.own ≠ 0 ∧ 0 < n.ctr)
 have hbad : bad → lay st (L last) (L p) n = none := fun h => by unfold lay; rw [if_pos h]
 have refused : bad → j6_ztree_Tree_lay B ro (some ⟨T, 0, none⟩) p last (some ⟨b, 0, none⟩) Q true σ := fun hb => by
  unfold j6_ztree_Tree_lay
  rw [if_pos rfl]
  exact hno (hbad hb) tag σ (StepC.refl hs)
 have r4 : bad → j4_ztree_Tree_lay B ro (some ⟨T, 0, none⟩) p last (some ⟨b, 0, none⟩) Q true σ := fun hb => by
  unfold j4_ztree_Tree_lay; rw [if_pos rfl]; exact refused hb
 have r2 : bad → j2_ztree_Tree_lay B ro (some ⟨T, 0, none⟩) p last (some ⟨b, 0, none⟩) Q true σ := fun hb => by
  unfold j2_ztree_Tree_lay; rw [if_pos rfl]; exact r4 hb
 refine check_ok g ?_
 by_cases c1 : (¬ (Pa.chk (L p) = 0)) ∨ ((lessS p last = true) ∨ p = last)
 ·rw [if_pos c1]
  refine r2 ?_
  rcases c1 with c1 | c1
  ·refine .inl ?_
   cases e : parts (L p) with
   | none => rfl
   | some ps => exact absurd (chk_zero.2 ⟨ps, e⟩) c1
  ·exact .inr (.inl ((le_iff_lessS p last).1 c1))
 rw [if_neg c1]
 simp only [not_or] at c1
 have hgt : ¬ L p ≤ L last := fun h => by
  rcases (le_iff_lessS p last).2 h with h | h
  ·exact c1.2.1 h
  ·exact c1.2.2 h
 obtain ⟨ps, hps⟩ := chk_zero.1 (Classical.not_not.1 c1.1)
 refine ⟨_, rfl, ds, hg 4 _ rfl, ?_⟩
 by_cases c2 : 256 < n.data.length
 ·rw [show decide (256 < (ds.len : Int)) = true from by rw [dlen]; simp; omega]
  exact r2 (.inr (.inr (.inl c2)))
 rw [show decide (256 < (ds.len : Int)) = false from by rw [dlen]; simp; omega]
 unfold j2_ztree_Tree_lay
 rw [if_neg (by decide)]
 refine ⟨_, rfl, n.ctr, hg 1 _ rfl, ?_⟩
 by_cases c3 : 10000000000 < n.ctr
 ·rw [show decide (10000000000 < n.ctr) = true from by simpa using c3]
  exact r4 (.inr (.inr (.inr (.inl c3))))
 rw [show decide (10000000000 < n.ctr) = false from by simpa using c3]
 unfold j4_ztree_Tree_lay
 rw [if_neg (by decide)]
 refine ⟨_, rfl, n.own, hg 2 _ rfl, ?_⟩
 have good : ¬ bad → j6_ztree_Tree_lay B ro (some ⟨T, 0, none⟩) p last (some ⟨b, 0, none⟩) Q false σ := fun hnbad => by
  have hq : st.lookup (L p) = none := by
   cases e : st.lookup (L p) with
   | none => rfl
   | some m => exact absurd (hk _ ((lookup_iff h.keys).1 e)) hgt
  unfold j6_ztree_Tree_lay
  rw [if_neg (by decide)]
  have hlay : lay st (L last) (L p) n = if L last = [] then (if L p = [47] ∧ n.data = [] ∧ n.ver = 0 ∧ n.own = 0 then some (st ++ [(L p, n)]) else none)
    else match parent (L p) with
     | none => none
     | some u => match st.lookup u with
      | none => none
      | some m => if m.own ≠ 0 then none else some (modN st u more ++ [(L p, n)]) := by
   conv => lhs; unfold lay
   rw [if_neg hnbad]
   try rfl
  by_cases cl : last = ⟨#[]⟩
  ·rw [if_pos cl]
   have cl' : L last = [] := by rw [cl]; rfl
   rw [if_pos cl'] at hlay
   refine ⟨_, rfl, _, Row.cell1 h.cell hs, ?_⟩
   rw [← S_L p]
   refine awp_update_str h.map hs u126 u9 fun σ1 st1 m1 => ?_
   have st1c : StepC r ro tag σ tag σ1 := st1.c (by simp <;> omega)
   have hn' := hn.keep st1 (by simp <;> omega) (by simp <;> omega)
   have hA := h.add2 hr hr6 hq hnb st1 hn' m1
   obtain ⟨ds', hn1', hn2'⟩ := hn'
   obtain ⟨pb', hpb', hg'⟩ := hn1'.ptr st1.sep (by simp)
   cases hpb'
   have dlen' : ds'.len = n.data.length := by rw [hn2'.len, List.length_map]
   have fin : ∀ x : Bool, (x = true ↔ (L p = [47] ∧ n.data = [] ∧ n.ver = 0 ∧ n.own = 0)) → Q x σ1 := fun x hx => by
    by_cases hc : L p = [47] ∧ n.data = [] ∧ n.ver = 0 ∧ n.own = 0
    ·rw [hx.2 hc]
     rw [if_pos hc] at hlay
     exact hyes _ hlay tag σ1 st1c ⟨_, hA, fun x hx => by simpa using hx⟩
    ·have : x = false := by
      cases x with
      | false => rfl
      | true => exact absurd (hx.1 rfl) hc
     rw [this]
     rw [if_neg hc] at hlay
     exact hno hlay tag σ1 st1c
   have j10 : ∀ x : Bool, (x = true ↔ (L p = [47] ∧ n.data = [])) → j10_ztree_Tree_lay B ro (some ⟨b, 0, none⟩) Q x σ1 := fun x hx => by
    unfold j10_ztree_Tree_lay
    cases x with
    | true =>
     rw [if_pos rfl]
     have hx' := hx.1 rfl
     refine ⟨_, rfl, n.ver, hg' 0 _ rfl, ?_⟩
     unfold j12_ztree_Tree_lay
     by_cases hv : n.ver = 0
     ·rw [if_pos (by simpa using hv)]
      refine ⟨_, rfl, n.own, hg' 2 _ rfl, ?_⟩
      unfold j14_ztree_Tree_lay
      exact fin _ (by simp [hx', hv])
     ·rw [if_neg (by simpa using hv)]
      unfold j14_ztree_Tree_lay
      exact fin _ (by simp [hv])
    | false =>
     rw [if_neg (by decide)]
     have hx' : ¬ (L p = [47] ∧ n.data = []) := fun h => by have := hx.2 h; cases this
     unfold j12_ztree_Tree_lay
     rw [if_neg (by decide)]
     unfold j14_ztree_Tree_lay
     exact fin _ ⟨fun h => (by cases h), fun h => absurd ⟨h.1, h.2.1⟩ hx'⟩
   by_cases cr : S (L p) = (⟨#[47]⟩ : ByteArray)
   ·rw [if_pos cr]
    have cr' : L p = [47] := S_inj.1 cr
    refine ⟨_, rfl, ds', hg' 4 _ rfl, ?_⟩
    refine j10 _ ?_
    rw [dlen']
    simp only [decide_eq_true_eq, cr', true_and]
    constructor
    ·intro h; exact List.eq_nil_of_length_eq_zero (by omega)
    ·intro h; rw [h]; rfl
   ·rw [if_neg cr]
    have cr' : ¬ L p = [47] := fun h => cr (S_inj.2 h)
    exact j10 _ ⟨fun h => (by cases h), fun h => absurd h.1 cr'⟩
  ·rw [if_neg cl]
   have cl' : L last ≠ [] := fun h => cl (L_inj h)
   rw [if_neg cl'] at hlay
   have j27no : ∀ x98, lay st (L last) (L p) n = none → j27_ztree_Tree_lay B ro (some ⟨T, 0, none⟩) p (some ⟨b, 0, none⟩) x98 Q true σ := fun x98 hl => by
    unfold j27_ztree_Tree_lay
    rw [if_pos rfl]
    exact hno hl tag σ (StepC.refl hs)
   have look : ∀ u : Str, (parent (L p) = none → lay st (L last) (L p) n = none) → (parent (L p) ≠ some u → st.lookup u = none) → (parent (L p) = some u ∨ parent (L p) = none) →
     awp prog ro (Instr.lookup 126 (.map (some M)) (.string (S u)) false) (fun v σ =>
      (∃ (x98_26 : Option Addr), v = .pointer x98_26 ∧
       if x98_26 = none then
       j27_ztree_Tree_lay B ro (some ⟨T, 0, none⟩) p (some ⟨b, 0, none⟩) x98_26 Q true σ
       else
       ∃ p103_34 : Addr, x98_26 = some p103_34 ∧
       ∃ (x106_35 : Int), acell ro σ (p103_34.add 2) = some (.int .i64 x106_35) ∧
       j27_ztree_Tree_lay B ro (some ⟨T, 0, none⟩) p (some ⟨b, 0, none⟩) x98_26 Q (!(decide (x106_35 = 0))) σ)) σ := fun u hnp hnl hor => by
    refine awp_lookup_str h.map hs u126 u9 ty129 ?_
    rcases kv_lookup st bs u h.len with ⟨a, e⟩ | ⟨i, b', m, a1, a2, a3, e⟩
    ·rw [e]
     refine ⟨none, rfl, ?_⟩
     rw [if_pos rfl]
     refine j27no none ?_
     rcases hor with hp | hp
     ·rw [hlay, hp]; simp only; rw [a]
     ·exact hnp hp
    ·rw [e]
     refine ⟨some ⟨b', 0, none⟩, rfl, ?_⟩
     rw [if_neg (by simp)]
     have hp : parent (L p) = some u := Classical.byContradiction fun hc => by rw [hnl hc] at a3; cases a3
     obtain ⟨dm, hm1, hm2⟩ := h.nodes i b' _ a1 a2
     obtain ⟨pm, hpm, hgm⟩ := hm1.ptr hs (by simp)
     cases hpm
     refine ⟨_, rfl, m.own, hgm 2 _ rfl, ?_⟩
     by_cases co : m.own = 0
     ·rw [show (!decide (m.own = 0)) = false from by simp [co]]
      have hl : lay st (L last) (L p) n = some (modN st u more ++ [(L p, n)]) := by rw [hlay, hp]; simp only; rw [a3]; simp only; rw [if_neg (by simpa using co)]
      unfold j27_ztree_Tree_lay
      rw [if_neg (by decide)]
      refine ⟨_, rfl, m.kids, hgm 3 _ rfl, _, rfl, ?_⟩
      refine hm1.st (i := 3) hs rfl (by simp) rfl fun σ1 st1 r1 => ?_
      have hA1 := h.write (n' := more m) hr hr6 a1 a2 st1 ⟨dm, r1, hm2.keep st1 (by simp <;> omega)⟩
      rw [← modN_set h.keys a2 more] at hA1
      have hbb : b ≠ b' := fun e => hnb (by rw [e]; exact List.mem_of_getElem? a1)
      have hnk := hn.keep st1 (by simp <;> omega) (by simp <;> omega)
      refine ⟨_, rfl, _, Row.cell1 hA1.cell st1.sep, ?_⟩
      rw [← S_L p]
      refine awp_update_str hA1.map st1.sep u126 u9 fun σ2 st2 m2 => ?_
      have hq1 : (modN st u more).lookup (L p) = none := by
       rw [lookup_mod]; split
       ·rw [hq]; rfl
       ·exact hq
      have hA2 := hA1.add2 hr hr6 hq1 hnb st2 (hnk.keep st2 (by simp <;> omega) (by simp <;> omega)) m2
      exact hyes _ hl tag σ2 ((st1.c (by simp <;> omega)).trans (st2.c (by simp <;> omega))) ⟨_, hA2, fun x hx => by simpa using hx⟩
     ·rw [show (!decide (m.own = 0)) = true from by simp [co]]
      exact j27no _ (by rw [hlay, hp]; simp only; rw [a3]; simp only; rw [if_pos co])
   refine Pa.parent_ok g (fun hpn => ?_) (fun u hu => ?_)
   ·refine ⟨_, rfl, _, Row.cell1 h.cell hs, ?_⟩
    refine look [] (fun hp => by rw [hlay, hp]) (fun _ => ?_) (.inr hpn)
    cases e : st.lookup [] with
    | none => rfl
    | some m => exact absurd rfl (hne _ ((lookup_iff h.keys).1 e))
   ·refine ⟨_, rfl, _, Row.cell1 h.cell hs, ?_⟩
    exact look u (fun hp => by rw [hu] at hp; cases hp) (fun hc => absurd hu hc) (.inl hu)
 by_cases c4 : n.own ≠ 0
 ·rw [if_pos (by simpa using c4)]
  refine ⟨_, rfl, n.ctr, hg 1 _ rfl, ?_⟩
  unfold j38_ztree_Tree_lay
  by_cases c5 : 0 < n.ctr
  ·rw [show decide (0 < n.ctr) = true from by simpa using c5]
   exact refused (.inr (.inr (.inr (.inr ⟨c4, c5⟩))))
  ·rw [show decide (0 < n.ctr) = false from by simpa using c5]
   refine good ?_
   rintro (h | h | h | h | h)
   ·rw [hps] at h; cases h
   ·exact hgt h
   ·exact c2 h
   ·exact c3 h
   ·exact c5 h.2
 ·rw [if_neg (by simpa using c4)]
  unfold j38_ztree_Tree_lay
  refine good ?_
  rintro (h | h | h | h | h)
  ·rw [hps] at h; cases h
  ·exact hgt h
  ·exact c2 h
  ·exact c3 h
  ·exact c4 h.1
end Zt
namespace SL
open Go
variable {ro σ σ' : AH} {tag tag' : Nat → Nat}
def StepS (C : List Nat) (ro : AH) (tag : Nat → Nat) (σ : AH) (tag' : Nat → Nat) (σ' : AH) : Prop := ∃ R : List Nat, (∀ x ∈ R, x % 64 ∈ C) ∧ Step R ro tag σ tag' σ'
theorem Step.s {C R : List Nat} (h : Step R ro tag σ tag' σ') (hR : ∀ x ∈ R, x % 64 ∈ C) : StepS C ro tag σ tag' σ' := ⟨R, hR, h⟩
theorem StepC.s {C : List Nat} {c : Nat} (h : StepC c ro tag σ tag' σ') (hc : c ∈ C) : StepS C ro tag σ tag' σ' := by
 obtain ⟨R, h1, h2⟩ := h
 exact ⟨R, fun x hx => by rw [h1 x hx]; exact hc, h2⟩
theorem StepS.sep {C : List Nat} (h : StepS C ro tag σ tag' σ') : Sep ro σ' := by obtain ⟨_, _, h⟩ := h; exact h.sep
theorem StepS.refl {C : List Nat} (h : Sep ro σ) : StepS C ro tag σ tag σ := ⟨[], by simp, Step.refl h⟩
theorem StepS.trans {C : List Nat} {tag'' : Nat → Nat} {σ'' : AH} (h : StepS C ro tag σ tag' σ') (k : StepS C ro tag' σ' tag'' σ'') : StepS C ro tag σ tag'' σ'' := by
 obtain ⟨R, h1, h2⟩ := h
 obtain ⟨R', k1, k2⟩ := k
 refine ⟨R ++ R', fun x hx => ?_, (h2.mono fun r hr => by simp [hr]).trans (k2.mono fun r hr => by simp [hr])⟩
 rcases List.mem_append.1 hx with h | h
 ·exact h1 x h
 ·exact k1 x h
theorem StepS.mono {C D : List Nat} (h : StepS C ro tag σ tag' σ') (hd : ∀ c ∈ C, c ∈ D) : StepS D ro tag σ tag' σ' := by
 obtain ⟨R, h1, h2⟩ := h
 exact ⟨R, fun x hx => hd _ (h1 x hx), h2⟩
theorem Row.keepS {C : List Nat} {r : Nat} {e : TypeId} {s : Sl} {l : List Value} (h : Row tag σ r e s l) (k : StepS C ro tag σ tag' σ') (hr : r % 64 ∉ C := by decide) : Row tag' σ' r e s l := by
 obtain ⟨R, h1, h2⟩ := k
 exact h.keep h2 fun m => hr (h1 _ m)
end SL
namespace Zt
open Go SL G Pa Wi
variable {B : World} {ro σ σ' : AH} {tag tag' : Nat → Nat}
theorem TreeIs.keepS {C : List Nat} {r T : Nat} {st : St} (h : TreeIs tag σ r T st) (k : StepS C ro tag σ tag' σ') (hr : r % 64 ∉ C := by decide) (h6 : 6 ∉ C := by decide) : TreeIs tag' σ' r T st := by
 obtain ⟨R, h1, h2⟩ := k
 exact h.keep h2 fun x hx => ⟨fun e => hr (by rw [← e]; exact h1 x hx), fun e => h6 (by have := h1 x hx; rw [e] at this; exact this)⟩
theorem TreeAt.fresh_b {r T M b : Nat} {bs : List Nat} {st : St} (h : TreeAt tag σ r T M bs st) (hb : σ b = none) : b ∉ bs := fun hm' => by
 obtain ⟨i, hi, e⟩ := List.getElem_of_mem hm'
 have hb' : bs[i]? = some b := by rw [List.getElem?_eq_getElem hi, e]
 have hil : i < st.length := by rw [← h.len]; exact hi
 obtain ⟨s, hn, _⟩ := h.nodes i b _ hb' (List.getElem?_eq_getElem hil)
 obtain ⟨_, o, ho⟩ := hn.tagOf
 rw [hb] at ho; cases ho
theorem rnode_shorter {x : Rd} (h : (rnode x).2.err = 0) : (rnode x).2.rest.length < x.rest.length := by
 unfold rnode at h ⊢
 simp only at h ⊢
 have h4 := rnum_err h
 have h3 := rnum_err h4
 have h2 := rnum_err h3
 have h1 := rblob_err h2
 have e1 := (rblob_split (r := x) h1).2
 have e2 := (rblob_split (r := (rblob x).2) h2).2
 have e3 := (rnum_split (r := (rblob (rblob x).2).2) h3).2
 have e4 := (rnum_split (r := (rnum (rblob (rblob x).2).2).2) h4).2
 have e5 := (rnum_split (r := (rnum (rnum (rblob (rblob x).2).2).2).2) h).2
 have l1 := congrArg List.length e1
 have l2 := congrArg List.length e2
 have l3 := congrArg List.length e3
 have l4 := congrArg List.length e4
 have l5 := congrArg List.length e5
 simp only [List.length_append, blob] at l1 l2 l3 l4 l5
 have := List.length_pos_iff.2 (vput_ne (rblob x).1.length)
 omega
theorem kv_at : ∀ (st : St) (bs : List Nat) (i : Nat) (p : Str × Nd) (b : Nat), st[i]? = some p → bs[i]? = some b → (kv st bs)[i]? = some (p.1, ptr b) := by
 intro st
 induction st with
 | nil => intro bs i p b h; cases h
 | cons q st ih =>
  intro bs i p b h hb
  cases bs with
  | nil => cases hb
  | cons c bs =>
   obtain ⟨q, m⟩ := q
   cases i with
   | zero => cases h; cases hb; rfl
   | succ i => unfold kv; simpa using ih bs i p b (by simpa using h) (by simpa using hb)
theorem counters_ok {r T M : Nat} {bs : List Nat} {st : St} {Q : Option Addr → Int → AH → Prop} (hr : r < 64) (hr0 : r ≠ 0) (hr6 : r ≠ 6) (h : TreeAt tag σ r T M bs st) (hs : SL.Sep ro σ)
  (hno : (st.all fun p => decide (p.2.kids ≤ p.2.ctr)) = false → ∀ tag' σ', Step [0] ro tag σ tag' σ' → Q none 13 σ')
  (hyes : (st.all fun p => decide (p.2.kids ≤ p.2.ctr)) = true → ∀ tag' σ', Step [0] ro tag σ tag' σ' → TreeAt tag' σ' r T M bs st → Q (some ⟨T, 0, none⟩) 0 σ') : j3_ztree_Decode B ro T Q σ := by
 unfold j3_ztree_Decode
 refine ⟨_, Row.cell1 h.cell hs, ?_⟩
 refine awp_range_map u126 h.map hs fun es clock x hM hes hbn hro hx => ?_
 refine ⟨_, rfl, ?_⟩
 have hxM : x ≠ M := fun e => by rw [e, hM] at hx; cases hx
 have hlen : es.toList.length = st.length := by
  have := congrArg List.length hes
  simp only [List.length_map] at this
  rw [this, kv_length st bs h.len]
 suffices ∀ (m : Nat) (seen : Array Nat) (tag1 : Nat → Nat) (σ1 : AH), unmet es seen = m → Step [0] ro tag σ tag1 σ1 → tag1 x = 0 → σ1 x = some (.mapIter (some M) clock seen clock) → σ1 M = some (.map es clock) → TreeAt tag1 σ1 r T M bs st →
   (∀ (i : Nat) (e : MapEntry) (p : Str × Nd), es.toList[i]? = some e → st[i]? = some p → seen.contains e.born = true → p.2.kids ≤ p.2.ctr) → lfpD (l7_ztree_Decode B ro ⟨x, 0, none⟩ T Q) () σ1 from by
  have st1 : Step [0] ro tag σ (setTag tag x 0) (upd σ x (.mapIter (some M) clock #[] clock)) := Step.fresh hs hro hx
  exact this _ #[] _ _ rfl st1 (by simp [setTag]) (upd_same _ _ _) (by rw [upd_ne _ _ hxM.symm]; exact hM) (h.keep st1 (by simp; omega)) (fun i e p _ _ hc => by simp at hc)
 intro m
 induction m using Nat.strongRecOn with
 | ind m ih =>
  intro seen tag1 σ1 hm hst htx hit hmp hA hseen
  have hs1 := hst.sep
  refine lfpD.intro ?_
  unfold l7_ztree_Decode
  refine awp_next_map hit hmp hs1 hbn (fun hall => ?_) fun e he hne => ?_
  ·refine .inl ⟨rfl, ?_⟩
   unfold j4_ztree_Decode
   refine hyes ?_ tag1 σ1 hst hA
   rw [List.all_eq_true]
   intro p hp
   obtain ⟨i, hi, rfl⟩ := List.getElem_of_mem hp
   have hie : i < es.toList.length := by omega
   have := hseen i es.toList[i] st[i] (List.getElem?_eq_getElem hie) (List.getElem?_eq_getElem hi) (hall _ (List.getElem_mem hie))
   simpa using this
  ·refine .inr ⟨_, _, rfl, ?_⟩
   have st2 : Step [0] ro tag1 σ1 tag1 (upd σ1 x (.mapIter (some M) clock (seen.push e.born) clock)) := step_obj hs1 htx hit
   have hmp2 : upd σ1 x (.mapIter (some M) clock (seen.push e.born) clock) M = some (.map es clock) := by rw [upd_ne _ _ hxM.symm]; exact hmp
   refine awp_entry_map (upd_same _ _ _) hmp2 st2.sep hbn he ?_
   obtain ⟨i, hi, rfl⟩ := List.getElem_of_mem he
   have hil : i < st.length := by omega
   have hib : i < bs.length := by rw [h.len]; exact hil
   have hval : entV es.toList[i] = pairV (st[i].1, ptr bs[i]) := by
    have h1 : (es.toList.map entV)[i]? = some (entV es.toList[i]) := by rw [List.getElem?_map, List.getElem?_eq_getElem hi]; rfl
    rw [hes, List.getElem?_map, kv_at st bs i _ _ (List.getElem?_eq_getElem hil) (List.getElem?_eq_getElem hib)] at h1
    exact (Option.some.inj h1).symm
   have hv : es.toList[i].val = ptr bs[i] := congrArg Prod.snd hval
   rw [hv]
   refine ⟨es.toList[i].key, some ⟨bs[i], 0, none⟩, rfl, ?_⟩
   have hA2 := hA.keep st2 (by simp; omega)
   obtain ⟨ds, hn1, _⟩ := hA2.nodes i bs[i] st[i] (List.getElem?_eq_getElem hib) (List.getElem?_eq_getElem hil)
   obtain ⟨q, hq, hg⟩ := hn1.ptr st2.sep (by simp)
   cases hq
   refine ⟨_, rfl, _, rfl, _, hg 1 _ rfl, _, hg 3 _ rfl, ?_⟩
   by_cases hc : st[i].2.ctr < st[i].2.kids
   ·rw [if_pos hc]
    refine hno ?_ tag1 _ (hst.trans st2)
    rw [← Bool.not_eq_true, List.all_eq_true]
    intro hall
    have := hall st[i] (List.getElem_mem hil)
    simp at this; omega
   ·rw [if_neg hc]
    refine ih (unmet es (seen.push es.toList[i].born)) (by rw [← hm]; exact unmet_push he hne) _ tag1 _ rfl (hst.trans st2) htx (upd_same _ _ _) hmp2 hA2 fun j e' p hj hp hcont => ?_
    rw [Array.contains_push] at hcont
    by_cases hb : e'.born = es.toList[i].born
    ·have hji : j = i := by
      have h1 : (es.toList.map (·.born))[j]? = some es.toList[i].born := by rw [List.getElem?_map, hj, ← hb]; rfl
      have h2 : (es.toList.map (·.born))[i]? = some es.toList[i].born := by rw [List.getElem?_map, List.getElem?_eq_getElem hi]; rfl
      exact idx_inj hbn.nd h1 h2
     subst hji
     rw [List.getElem?_eq_getElem hil] at hp
     cases hp
     omega
    ·refine hseen j e' p hj hp ?_
     cases h1 : seen.contains e'.born with
     | true => rfl
     | false =>
      rw [h1, Bool.false_or] at hcont
      exact absurd (eq_of_beq hcont) hb
theorem decode_ok {r : Nat} {a0 : Sl} {b : Str} {Q : Option Addr → Int → AH → Prop} (g : Glob ro) (hr : r < 64) (hr6 : r ≠ 6) (hr0 : r ≠ 0) (hr3 : r ≠ 31) (h : SL.Read ro σ a0 (b.map vU)) (hl : b.length ≤ 140737488355328)
  (hno : dec b = none → ∀ tag' σ', StepS [r, 31, 0] ro tag σ tag' σ' → Q none 13 σ')
  (hyes : ∀ st, dec b = some st → ∀ T tag' σ', StepS [r, 31, 0] ro tag σ tag' σ' → TreeIs tag' σ' r T st → Q (some ⟨T, 0, none⟩) 0 σ') : c_ztree_Decode B ro a0 σ Q := by
 refine ztree_Decode_ok fun hs => ?_
 unfold f_ztree_Decode
 refine nw_map (tag := tag) (r + 64) hs fun M tag1 σ1 st1 m1 => ?_
 refine nw_cells (tag := tag1) r (st1 []).sep fun T tag2 σ2 st2 r2 => ?_
 have m2 := m1.keep (st2 [])
 refine newReader_ok (tag := tag2) (r := 31) ((h.step (st1 [])).step (st2 [])) (st2 []).sep hl fun A tag3 σ3 st3 rd3 => ?_
 have hA3 : TreeAt tag3 σ3 r T M [] [] := ⟨by simp, rfl, by simp, r2.keep (st3 []), m2.keep (st3 []), fun i b p hb => by cases hb⟩
 obtain ⟨R0, hR⟩ : ∃ R0, decL (b.length + 1) ⟨b, 0⟩ [] [] = R0 := ⟨_, rfl⟩
 have hdb0 : dec b = R0.bind fun st => if st.all fun p => decide (p.2.kids ≤ p.2.ctr) then some st else none := by unfold dec; rw [hR]; cases R0 <;> rfl
 suffices ∀ (f : Nat) (x : Rd) (st : St) (bs : List Nat) (last : ByteArray) (tag4 : Nat → Nat) (σ4 : AH), decL f x st (L last) = R0 → x.rest.length < f → x.err = 0 → (∀ y ∈ st, y.1 ≤ L last) → (∀ y ∈ st, y.1 ≠ []) →
   StepS [r, 31, 0] ro tag σ tag4 σ4 → TreeAt tag4 σ4 r T M bs st → RdAt tag4 σ4 31 A x → lfpD (l17_ztree_Decode B ro T (some ⟨A, 0, none⟩) Q) last σ4 from
  this (b.length + 1) ⟨b, 0⟩ [] [] ⟨#[]⟩ tag3 σ3 hR (by simp) rfl (fun _ h => by cases h) (fun _ h => by cases h) (((st1 []).s (by simp)).trans (((st2 []).s (by simp)).trans ((st3 []).s (by simp)))) hA3 rd3
 intro f
 induction f with
 | zero => intro x st bs last tag4 σ4 _ hlt; omega
 | succ f ih =>
  intro x st bs last tag4 σ4 hdec hlt herr hk hne hst hA hrd
  have hs4 := hst.sep
  unfold decL at hdec
  have hdb := hdb0
  refine lfpD.intro ?_
  unfold l17_ztree_Decode
  refine left_ok hrd hs4 ?_
  have h31 : (31 : Nat) ≠ 6 := by decide
  by_cases hend : x.rest = [] ∧ L last ≠ []
  ·rw [if_neg (by
    rintro (h | h)
    ·rw [hend.1] at h; simp at h
    ·exact hend.2 (by rw [h]; rfl))]
   rw [if_pos hend] at hdec
   rw [← hdec] at hdb
   simp only [Option.bind_some] at hdb
   refine counters_ok hr hr0 hr6 hA hs4 (fun hc tag5 σ5 st5 => ?_) fun hc tag5 σ5 st5 hA5 => ?_
   ·exact hno (by rw [hdb, if_neg (by rw [hc]; simp)]) tag5 σ5 (hst.trans (st5.s (by simp)))
   ·exact hyes st (by rw [hdb, if_pos hc]) T tag5 σ5 (hst.trans (st5.s (by simp))) ⟨M, bs, hA5⟩
  ·rw [if_neg hend] at hdec
   rw [if_pos (by
    by_cases h : L last = []
    ·exact .inr (L_inj h)
    ·refine .inl ?_
     have : x.rest ≠ [] := fun e => hend ⟨e, h⟩
     have := List.length_pos_iff.2 this
     omega)]
   refine rdText_ok hrd h31 hs4 fun tag5 σ5 st5 rd5 => ?_
   refine rdBlob_ok rd5 h31 st5.sep fun ds tag6 σ6 st6 r6 rd6 => ?_
   have h431 : ∀ x ∈ [31], x % 64 ≠ r % 64 ∧ x ≠ 6 := by simp; omega
   have hA6 := (hA.keep st5 h431).keep st6 h431
   refine nw_cellsF (tag := tag6) (fun b => r + 64 * (b + 2)) st6.sep fun c tag7 σ7 hro7 hc7 st7 r7 => ?_
   have hnb := hA6.fresh_b hc7
   have hA7 := hA6.keep (st7 [])
   have rd7 := rd6.keep (st7 [])
   have hr67 := r6.keep (st7 [])
   refine rdNum_ok rd7 h31 (st7 []).sep fun σ8 st8 rd8 => ?_
   refine rdNum_ok rd8 h31 st8.sep fun σ9 st9 rd9 => ?_
   refine rdNum_ok rd9 h31 st9.sep fun σa sta rda => ?_
   have k31 : ∀ c : Nat, r + 64 * (c + 2) ∉ [31] := fun c => by simp; omega
   have rna := ((r7.keep st8 (k31 c)).keep st9 (k31 c)).keep sta (k31 c)
   have hAa := ((hA7.keep st8 h431).keep st9 h431).keep sta h431
   have hda := ((hr67.keep st8).keep st9).keep sta
   refine rna.st (i := 0) sta.sep rfl (by simp) rfl fun σb stb rb => ?_
   refine rb.st (i := 1) stb.sep rfl (by simp) rfl fun σc stc rc => ?_
   refine rc.st (i := 2) stc.sep rfl (by simp) rfl fun σd std rdd => ?_
   have stbd := stb.trans (stc.trans std)
   have kc31 : (31 : Nat) ∉ [r + 64 * (c + 2)] := by simp; omega
   have kc6 : (6 : Nat) ∉ [r + 64 * (c + 2)] := by simp; omega
   have rdD := rda.keep stbd kc31 kc6
   have hAd : TreeAt tag7 σd r T M bs st := by
    refine ⟨hAa.keys, hAa.len, hAa.nd, hAa.cell.keep stbd, hAa.map.keep stbd (by simp; omega), fun i b p hb hp => ?_⟩
    refine (hAa.nodes i b p hb hp).keep stbd ?_ kc6
    simp
    intro e
    have : b = c := by omega
    subst this
    exact hnb (List.mem_of_getElem? hb)
   have hnode : NodeAt tag7 σd r c (rnode x).1.2 := ⟨ds, rdd, hda.keep stbd kc6⟩
   have stD : StepS [r, 31, 0] ro tag σ tag7 σd := hst.trans ((st5.s (by simp)).trans ((st6.s (by simp)).trans (((st7 []).s (by simp)).trans ((st8.s (by simp)).trans ((st9.s (by simp)).trans ((sta.s (by simp)).trans (stbd.s (by simp; omega))))))))
   refine rerr_ok rdD std.sep ?_
   by_cases he : (rnode x).2.err = 0
   ·rw [if_neg (by simpa [rnode] using he)]
    rw [if_neg (by simpa using he)] at hdec
    have hp : L (S (rblob x).1) = (rnode x).1.1 := by rw [L_S]; rfl
    refine lay_ok g hr hr6 hr0 hAd hnode hnb hk hne (fun hlay tag8 σe ste => ?_) fun st' hlay tag8 σe ste ⟨bs', hAe, hbs⟩ => ?_
    ·rw [hp] at hlay
     rw [hlay] at hdec
     simp only at hdec
     rw [← hdec] at hdb
     unfold j27_ztree_Decode
     rw [if_pos (by decide)]
     exact hno hdb tag8 σe (stD.trans (ste.s (by simp)))
    ·rw [hp] at hlay
     rw [hlay] at hdec
     simp only at hdec
     unfold j27_ztree_Decode
     rw [if_neg (by decide)]
     have hsh := rnode_shorter he
     have hkeys : (∀ y ∈ st', y.1 ≤ (rnode x).1.1) ∧ ∀ y ∈ st', y.1 ≠ [] := by
      unfold lay at hlay
      by_cases hbad : parts (rnode x).1.1 = none ∨ (rnode x).1.1 ≤ L last ∨ 256 < (rnode x).1.2.data.length ∨ 10000000000 < (rnode x).1.2.ctr ∨ ((rnode x).1.2.own ≠ 0 ∧ 0 < (rnode x).1.2.ctr)
      ·rw [if_pos hbad] at hlay; cases hlay
      rw [if_neg hbad] at hlay
      simp only [not_or] at hbad
      have hpn : (rnode x).1.1 ≠ [] := by
       cases e : parts (rnode x).1.1 with
       | none => exact absurd e hbad.1
       | some ps => exact path_ne e
      have hgt := sle_of_lt (snot_le.1 hbad.2.1)
      have base : ∀ y ∈ st, y.1 ≤ (rnode x).1.1 := fun y hy => List.le_trans (hk y hy) hgt
      by_cases hl0 : L last = []
      ·rw [if_pos hl0] at hlay
       split at hlay
       ·cases hlay
        refine ⟨fun y hy => ?_, fun y hy => ?_⟩
        ·rcases List.mem_append.1 hy with h | h
         ·exact base y h
         ·rw [List.mem_singleton.1 h]; exact List.le_refl _
        ·rcases List.mem_append.1 hy with h | h
         ·exact hne y h
         ·rw [List.mem_singleton.1 h]; exact hpn
       ·cases hlay
      ·rw [if_neg hl0] at hlay
       have key : ∀ u, st' = modN st u more ++ [((rnode x).1.1, (rnode x).1.2)] → (∀ y ∈ st', y.1 ≤ (rnode x).1.1) ∧ ∀ y ∈ st', y.1 ≠ [] := fun u he => by
        have hm : ∀ y ∈ modN st u more, ∃ z ∈ st, y.1 = z.1 := fun y hy => by
         unfold modN at hy
         obtain ⟨z, hz, rfl⟩ := List.mem_map.1 hy
         exact ⟨z, hz, by split <;> rfl⟩
        rw [he]
        refine ⟨fun y hy => ?_, fun y hy => ?_⟩
        ·rcases List.mem_append.1 hy with h | h
         ·obtain ⟨z, hz, e⟩ := hm y h; rw [e]; exact base z hz
         ·rw [List.mem_singleton.1 h]; exact List.le_refl _
        ·rcases List.mem_append.1 hy with h | h
         ·obtain ⟨z, hz, e⟩ := hm y h; rw [e]; exact hne z hz
         ·rw [List.mem_singleton.1 h]; exact hpn
       cases hpp : parent (rnode x).1.1 with
       | none => rw [hpp] at hlay; cases hlay
       | some u =>
        rw [hpp] at hlay
        simp only at hlay
        cases hlk : st.lookup u with
        | none => rw [hlk] at hlay; cases hlay
        | some m =>
         rw [hlk] at hlay
         simp only at hlay
         split at hlay
         ·cases hlay
         ·exact key u (Option.some.inj hlay).symm
     refine ih (rnode x).2 st' bs' (S (rblob x).1) tag8 σe ?_ (by omega) he ?_ hkeys.2 (stD.trans (ste.s (by simp))) hAe (rdD.keepC ste (by omega) hr6)
     ·rw [hp]; exact hdec
     ·rw [hp]; exact hkeys.1
   ·rw [if_pos (by simpa [rnode] using he)]
    rw [if_pos (by simpa using he)] at hdec
    rw [← hdec] at hdb
    unfold j27_ztree_Decode
    rw [if_pos (by decide)]
    exact hno hdb tag7 σd stD
end Zt
namespace Zt
open Go SL G Pa
variable {B : World} {ro σ σ' : AH} {tag tag' : Nat → Nat}
theorem glob_lent {ψ : AH} (g : Glob ro) : Glob (join ro ψ) := by
 obtain ⟨m, o, h1, h2⟩ := g.maxlen
 exact ⟨⟨m, o, join_left h1, h2⟩, fun w hw => g.tab w fun b o hb => hw b o (join_left hb)⟩
theorem TreeIs.back {r T b r' : Nat} {st : St} {τ : AH} (h : TreeIs tag' τ r T st) (hd : Disj (SL.one σ b) τ) (hb : ∃ o, σ b = some o) : TreeIs (setTag tag' b r') (join (SL.one σ b) τ) r T st := by
 obtain ⟨M, bs, h⟩ := h
 refine ⟨M, bs, h.keys, h.len, h.nd, h.cell.back hd hb, h.map.back hd hb, fun i c p hc hp => ?_⟩
 obtain ⟨s, h1, h2⟩ := h.nodes i c p hc hp
 exact ⟨s, h1.back hd hb, h2.back hd hb⟩
theorem copy_ok {s : Sl} {l : List Value} {Q : Sl → AH → Prop} (h : SL.Read ro σ s l) (hs : SL.Sep ro σ) (hl : l.length ≤ 140737488355328) (hv : ∀ v ∈ l, storable v = true) (hQ : ∀ s' tag' σ', (∀ R, Step R ro tag σ tag' σ') → Row tag' σ' 6 5 s' l → Q s' σ') : c_ref01_Copy B ro s σ Q := by
 refine ref01_Copy_ok fun _ => ?_
 unfold f_ref01_Copy
 refine nw_cells (tag := tag) 0 hs fun b tag1 σ1 st1 r1 => ?_
 refine ref01_Join_ok fun _ => ?_
 unfold f_ref01_Join
 refine nw_cells (tag := tag1) 6 (st1 []).sep fun c tag2 σ2 st2 r2 => ?_
 have r1' := r1.keep (st2 [])
 have h2 : SL.Read ro σ2 s l := (h.step (st1 [])).step (st2 [])
 refine lfpD.intro ?_
 unfold l4_ref01_Join
 simp only
 rw [if_pos (by decide)]
 obtain ⟨p, hp, hg⟩ := r1'.ptr (st2 []).sep (by simp)
 cases hp
 refine ⟨_, rfl, by decide, by decide, s, hg 0 _ rfl, ?_⟩
 refine awp_appendN r2 (st2 []).sep h2 u30 ty5 rfl hv (by simp; omega) (by decide) fun s' tag3 σ3 st3 r3 => ?_
 refine ⟨s', rfl, ?_⟩
 rw [show i64.wrap (0 + 1) = 1 from by decide]
 refine lfpD.intro ?_
 show (if (1 : Int) < ((1 : Nat) : Int) then _ else _)
 rw [if_neg (by decide)]
 unfold j2_ref01_Join
 exact hQ s' tag3 σ3 (fun R => (st1 R).trans ((st2 R).trans (st3 R (.inl rfl)))) r3
end Zt
namespace Zt
open Go SL Pa Wi
theorem create_spec (st : St) (p d : Str) (o : Int) (seq : Bool) : (∃ e, e ≠ 0 ∧ create st p d o seq = (st, [], e)) ∨
  ∃ q u n, create st p d o seq = (modN (st ++ [(q, ⟨0, 0, o, 0, d⟩)]) u bump, q, 0) ∧ st.lookup u = some n ∧ n.own = 0 ∧ ¬ 9999999999 < n.ctr ∧ st.lookup q = none ∧ parent q = some u ∧ d.length ≤ 256 ∧ 0 ≤ o ∧ o ≤ 4611686018427387903 := by
 unfold create
 cases hp : parent p with
 | none => exact .inl ⟨20, by decide, rfl⟩
 | some u =>
  simp only
  by_cases h1 : 256 < d.length
  ·rw [if_pos h1]; exact .inl ⟨75, by decide, rfl⟩
  rw [if_neg h1]
  by_cases h2 : o < 0 ∨ 4611686018427387903 < o
  ·rw [if_pos h2]; exact .inl ⟨10, by decide, rfl⟩
  rw [if_neg h2]
  cases hn : st.lookup u with
  | none => exact .inl ⟨70, by decide, rfl⟩
  | some n =>
   simp only
   by_cases h3 : n.own ≠ 0
   ·rw [if_pos h3]; exact .inl ⟨74, by decide, rfl⟩
   rw [if_neg h3]
   by_cases h4 : 9999999999 < n.ctr
   ·rw [if_pos h4]; exact .inl ⟨76, by decide, rfl⟩
   rw [if_neg h4]
   have fin : ∀ q, parent q = some u → (∃ e, e ≠ 0 ∧ (if (st.lookup q).isSome = true then (st, ([] : Str), (71 : Int)) else (modN (st ++ [(q, ⟨0, 0, o, 0, d⟩)]) u bump, q, 0)) = (st, [], e)) ∨
     ∃ q' u' n', (if (st.lookup q).isSome = true then (st, ([] : Str), (71 : Int)) else (modN (st ++ [(q, ⟨0, 0, o, 0, d⟩)]) u bump, q, 0)) = (modN (st ++ [(q', ⟨0, 0, o, 0, d⟩)]) u' bump, q', 0) ∧ st.lookup u' = some n' ∧ n'.own = 0 ∧ ¬ 9999999999 < n'.ctr ∧ st.lookup q' = none ∧ parent q' = some u' ∧ d.length ≤ 256 ∧ 0 ≤ o ∧ o ≤ 4611686018427387903 := fun q hq => by
    by_cases h5 : (st.lookup q).isSome = true
    ·rw [if_pos h5]; exact .inl ⟨71, by decide, rfl⟩
    ·rw [if_neg h5]
     exact .inr ⟨q, u, n, rfl, hn, by simpa using h3, h4, (by
      cases e : st.lookup q with
      | none => rfl
      | some y => rw [e] at h5; exact absurd rfl h5), hq, by omega, by omega, by omega⟩
   by_cases hs : seq = true
   ·rw [if_pos hs]
    cases hsf : suffix p n.ctr with
    | none => exact .inl ⟨20, by decide, rfl⟩
    | some q =>
     obtain ⟨ps, _, hpq⟩ := suffix_parent hsf
     exact fin q (by rw [hpq, hp])
   ·rw [if_neg hs]
    exact fin p hp
theorem remove_spec (st : St) (p : Str) (v : Int) : (∃ e, e ≠ 0 ∧ remove st p v = (st, e)) ∨
  ∃ n u, remove st p v = (delK (modN st u less) p, 0) ∧ st.lookup p = some n ∧ p ≠ [47] ∧ parent p = some u ∧ ¬ 0 < n.kids := by
 unfold remove
 by_cases h0 : p = [47] ∨ parts p = none
 ·rw [if_pos h0]; exact .inl ⟨20, by decide, rfl⟩
 rw [if_neg h0]
 cases hn : st.lookup p with
 | none => exact .inl ⟨70, by decide, rfl⟩
 | some n =>
  simp only
  by_cases h1 : v ≠ -1 ∧ v ≠ n.ver
  ·rw [if_pos h1]; exact .inl ⟨72, by decide, rfl⟩
  rw [if_neg h1]
  by_cases h2 : 0 < n.kids
  ·rw [if_pos h2]; exact .inl ⟨73, by decide, rfl⟩
  rw [if_neg h2]
  simp only [not_or] at h0
  obtain ⟨ps, hps⟩ : ∃ ps, parts p = some ps := by
   cases e : parts p with
   | none => exact absurd e h0.2
   | some ps => exact ⟨ps, rfl⟩
  obtain ⟨u, hu⟩ := parent_some hps h0.1
  rw [hu]
  exact .inr ⟨n, u, rfl, rfl, h0.1, rfl, h2⟩
theorem setD_spec (st : St) (p d : Str) (v : Int) : (∃ e, e ≠ 0 ∧ setD st p d v = (st, 0, e)) ∨
  ∃ n, setD st p d v = (modN st p (setNd d), i64.wrap (n.ver + 1), 0) ∧ st.lookup p = some n ∧ p ≠ [47] ∧ d.length ≤ 256 := by
 unfold setD
 by_cases h0 : p = [47] ∨ parts p = none
 ·rw [if_pos h0]; exact .inl ⟨20, by decide, rfl⟩
 rw [if_neg h0]
 by_cases h1 : 256 < d.length
 ·rw [if_pos h1]; exact .inl ⟨75, by decide, rfl⟩
 rw [if_neg h1]
 cases hn : st.lookup p with
 | none => exact .inl ⟨70, by decide, rfl⟩
 | some n =>
  simp only
  by_cases h2 : v ≠ -1 ∧ v ≠ n.ver
  ·rw [if_pos h2]; exact .inl ⟨72, by decide, rfl⟩
  rw [if_neg h2]
  simp only [not_or] at h0
  exact .inr ⟨n, rfl, rfl, h0.1, by omega⟩
structure InvB (b : Nat) (st : St) : Prop where
 inv : Inv st
 ver : ∀ k n, st.lookup k = some n → 0 ≤ n.ver ∧ n.ver ≤ b
 own : ∀ k n, st.lookup k = some n → 0 ≤ n.own ∧ n.own ≤ 4611686018427387903 ∧ (n.own ≠ 0 → n.ctr = 0)
 rt : ∀ n, st.lookup [47] = some n → n.data = [] ∧ n.ver = 0 ∧ n.own = 0
 len : st.length ≤ b + 1
theorem InvB.mono {b c : Nat} {st : St} (h : InvB b st) (hc : b ≤ c) : InvB c st :=
 ⟨h.inv, fun k n hk => by have := h.ver k n hk; omega, h.own, h.rt, by have := h.len; omega⟩
theorem Inv.ctr0 {st : St} (h : Inv st) {k : Str} {n : Nd} (hk : st.lookup k = some n) : 0 ≤ n.ctr := by
 have h1 := h.kids k n hk
 have h2 := (h.ctr k n hk).1
 omega
theorem InvB.inv3 {b : Nat} {st : St} (h : InvB b st) (hb : b ≤ 4611686018427387903) : Inv3 st := by
 refine ⟨h.inv, fun k n hk => ⟨?_, (h.own k n hk).2.2⟩, h.rt⟩
 have h1 := h.ver k n hk
 have h2 := h.own k n hk
 have h3 := h.inv.ctr k n hk
 have h4 := h.inv.ctr0 hk
 unfold numsOk rightN
 simp only [Bool.and_eq_true, decide_eq_true_eq]
 omega
theorem invB_new : InvB 0 St.new := by
 have hl : ∀ k n, St.new.lookup k = some n → n = ⟨0, 0, 0, 0, []⟩ := fun k n h => by
  unfold St.new at h
  rw [List.lookup_cons] at h
  split at h
  ·exact (Option.some.inj h).symm
  ·cases h
 refine ⟨inv_new, fun k n h => ?_, fun k n h => ?_, fun n h => ?_, by decide⟩
 ·rw [hl k n h]; decide
 ·rw [hl k n h]; decide
 ·rw [hl _ n h]; exact ⟨rfl, rfl, rfl⟩
theorem invB_create {b : Nat} {st : St} {p d : Str} {o : Int} {seq : Bool} (h : InvB b st) (hb : b ≤ 4398046511103) : InvB (b + 1) (create st p d o seq).1 := by
 have hi := inv_create (p := p) (d := d) (o := o) (seq := seq) h.inv (by have := h.len; omega)
 have hlen := create_len st p d o seq
 rcases create_spec st p d o seq with ⟨e, _, he⟩ | ⟨q, u, n, he, hu, hown, hctr, hq, hpq, hd, ho1, ho2⟩
 ·rw [he]; exact h.mono (by omega)
 ·rw [he] at hi hlen ⊢
  simp only at hi hlen ⊢
  have hl : ∀ k m, (modN (st ++ [(q, ⟨0, 0, o, 0, d⟩)]) u bump).lookup k = some m → (∃ m', (st.lookup k = some m' ∨ (k = q ∧ m' = ⟨0, 0, o, 0, d⟩)) ∧ (m = m' ∨ (k = u ∧ m = bump m'))) := fun k m hk => by
   rw [lookup_mod, lookup_app] at hk
   have base : ∀ x, (match st.lookup k with | some m => some m | none => if k = q then some (⟨0, 0, o, 0, d⟩ : Nd) else none) = some x → st.lookup k = some x ∨ (k = q ∧ x = ⟨0, 0, o, 0, d⟩) := fun x hx => by
    cases e : st.lookup k with
    | some y => rw [e] at hx; exact .inl hx
    | none =>
     rw [e] at hx
     simp only at hx
     split at hx
     ·rename_i hkq; exact .inr ⟨hkq, (Option.some.inj hx).symm⟩
     ·cases hx
   split at hk
   ·rename_i hku
    obtain ⟨m', h1, h2⟩ := Option.map_eq_some_iff.1 hk
    exact ⟨m', base m' h1, .inr ⟨hku, h2.symm⟩⟩
   ·exact ⟨m, base m hk, .inl rfl⟩
  refine ⟨hi, fun k m hk => ?_, fun k m hk => ?_, fun m hk => ?_, by have := h.len; omega⟩
  ·obtain ⟨m', h1, h2⟩ := hl k m hk
   have h3 : 0 ≤ m'.ver ∧ m'.ver ≤ (b + 1 : Nat) := by
    rcases h1 with h1 | ⟨_, rfl⟩
    ·have := h.ver k m' h1; omega
    ·simp only; omega
   rcases h2 with rfl | ⟨_, rfl⟩
   ·exact h3
   ·exact h3
  ·obtain ⟨m', h1, h2⟩ := hl k m hk
   rcases h2 with rfl | ⟨hku, rfl⟩
   ·rcases h1 with h1 | ⟨_, rfl⟩
    ·exact h.own k m h1
    ·exact ⟨ho1, ho2, fun _ => rfl⟩
   ·rcases h1 with h1 | ⟨hkq, _⟩
    ·rw [hku, hu] at h1
     obtain rfl := Option.some.inj h1
     exact ⟨by show 0 ≤ n.own; omega, by show n.own ≤ _; omega, fun hn => absurd hown hn⟩
    ·rw [hkq] at hku
     rw [hku] at hq
     rw [hq] at hu; cases hu
  ·obtain ⟨m', h1, h2⟩ := hl _ m hk
   have h3 : m'.data = [] ∧ m'.ver = 0 ∧ m'.own = 0 := by
    rcases h1 with h1 | ⟨hkq, _⟩
    ·exact h.rt m' h1
    ·rw [← hkq, root_parent] at hpq; cases hpq
   rcases h2 with rfl | ⟨_, rfl⟩
   ·exact h3
   ·exact h3
theorem invB_remove {b : Nat} {st : St} {p : Str} {v : Int} (h : InvB b st) (hb : b ≤ 4398046511103) : InvB (b + 1) (remove st p v).1 := by
 have hi := inv_remove (p := p) (v := v) h.inv (by have := h.len; omega)
 have hlen := remove_len st p v
 rcases remove_spec st p v with ⟨e, _, he⟩ | ⟨n, u, he, hn, hne, hu, hk⟩
 ·rw [he]; exact h.mono (by omega)
 ·rw [he] at hi hlen ⊢
  simp only at hi hlen ⊢
  have hnd : ((modN st u less).map (·.1)).Nodup := by rw [keys_mod]; exact h.inv.keys
  have hl : ∀ k m, (delK (modN st u less) p).lookup k = some m → ∃ m', st.lookup k = some m' ∧ (m = m' ∨ m = less m') := fun k m hk => by
   rw [lookup_del hnd] at hk
   split at hk
   ·cases hk
   ·rw [lookup_mod] at hk
    split at hk
    ·obtain ⟨m', h1, h2⟩ := Option.map_eq_some_iff.1 hk
     exact ⟨m', h1, .inr h2.symm⟩
    ·exact ⟨m, hk, .inl rfl⟩
  refine ⟨hi, fun k m hk => ?_, fun k m hk => ?_, fun m hk => ?_, by have := h.len; omega⟩
  ·obtain ⟨m', h1, h2⟩ := hl k m hk
   have := h.ver k m' h1
   rcases h2 with rfl | rfl
   ·omega
   ·show 0 ≤ m'.ver ∧ m'.ver ≤ _; omega
  ·obtain ⟨m', h1, h2⟩ := hl k m hk
   have := h.own k m' h1
   rcases h2 with rfl | rfl
   ·exact this
   ·exact this
  ·obtain ⟨m', h1, h2⟩ := hl _ m hk
   have := h.rt m' h1
   rcases h2 with rfl | rfl
   ·exact this
   ·exact this
theorem invB_set {b : Nat} {st : St} {p d : Str} {v : Int} (h : InvB b st) (hb : b ≤ 4398046511103) : InvB (b + 1) (setD st p d v).1 := by
 have hi := inv_set (p := p) (d := d) (v := v) h.inv
 have hlen := setD_len st p d v
 rcases setD_spec st p d v with ⟨e, _, he⟩ | ⟨n, he, hn, hne, hd⟩
 ·rw [he]; exact h.mono (by omega)
 ·rw [he] at hi hlen ⊢
  simp only at hi hlen ⊢
  have hl : ∀ k m, (modN st p (setNd d)).lookup k = some m → ∃ m', st.lookup k = some m' ∧ (m = m' ∨ (k = p ∧ m = setNd d m')) := fun k m hk => by
   rw [lookup_mod] at hk
   split at hk
   ·rename_i hkp
    obtain ⟨m', h1, h2⟩ := Option.map_eq_some_iff.1 hk
    exact ⟨m', h1, .inr ⟨hkp, h2.symm⟩⟩
   ·exact ⟨m, hk, .inl rfl⟩
  refine ⟨hi, fun k m hk => ?_, fun k m hk => ?_, fun m hk => ?_, by have := h.len; omega⟩
  ·obtain ⟨m', h1, h2⟩ := hl k m hk
   have := h.ver k m' h1
   rcases h2 with rfl | ⟨_, rfl⟩
   ·omega
   ·show 0 ≤ i64.wrap (m'.ver + 1) ∧ i64.wrap (m'.ver + 1) ≤ _
    rw [w64_eq (by omega) (by omega)]; omega
  ·obtain ⟨m', h1, h2⟩ := hl k m hk
   have := h.own k m' h1
   rcases h2 with rfl | ⟨_, rfl⟩
   ·exact this
   ·exact this
  ·obtain ⟨m', h1, h2⟩ := hl _ m hk
   rcases h2 with rfl | ⟨hkp, _⟩
   ·exact h.rt m h1
   ·exact absurd hkp.symm hne
theorem Inv.small {st : St} (h : Inv st) : ∀ p ∈ st, p.1.length ≤ 128 ∧ p.2.data.length ≤ 256 := fun p hp => by
 have hl := (lookup_iff h.keys (k := p.1) (n := p.2)).2 hp
 obtain ⟨ps, hps⟩ := h.path _ _ hl
 obtain ⟨e, hg⟩ := parts_iff.1 hps
 exact ⟨by rw [e]; exact hg.len, h.data _ _ hl⟩
end Zt
namespace Zt
open Go SL G Pa
variable {B : World} {ro σ σ' : AH} {tag tag' : Nat → Nat}
theorem kc_perm {a b : List Str} (h : a.Perm b) (u : Str) : kc a u = kc b u := by unfold kc; exact h.countP_eq _
theorem u5 : prog.underlying 5 = some (.int .u8) := by kernel_rfl
theorem delK_filter {st : St} (hk : (st.map (·.1)).Nodup) (q : Str) : delK st q = st.filter fun p => !(p.1 == q) := by
 induction st with
 | nil => rfl
 | cons p st ih =>
  obtain ⟨k, n⟩ := p
  simp only [List.map_cons, List.nodup_cons] at hk
  unfold delK
  rw [List.filter_cons]
  by_cases h : q = k
  ·subst h
   rw [if_pos rfl]
   simp only [beq_self_eq_true, Bool.not_true, Bool.false_eq_true, if_false]
   symm
   rw [List.filter_eq_self]
   intro y hy
   have : y.1 ≠ q := fun e => hk.1 (by rw [← e]; exact List.mem_map.2 ⟨y, hy, rfl⟩)
   simpa using this
  ·rw [if_neg h, ih hk.2]
   have : (!(k == q)) = true := by simpa using fun e => h e.symm
   rw [this]; rfl
theorem modN_perm {a b : St} (h : a.Perm b) (u : Str) (f : Nd → Nd) : (modN a u f).Perm (modN b u f) := h.map _
theorem del_up {st : St} (hi : Inv st) {p : Str} : ∀ u n, parent p = some u → st.lookup p = some n → ∃ m, st.lookup u = some m := fun u n hu hn => by
 have hne : p ≠ [47] := fun e => by rw [e, root_parent] at hu; cases hu
 obtain ⟨u', m', e1, e2, _⟩ := hi.up _ n hn hne
 rw [hu] at e1; cases e1
 exact ⟨m', e2⟩
theorem encL_len (x : St) : (∀ p ∈ x, p.1.length ≤ 128 ∧ p.2.data.length ≤ 256 ∧ numsOk p.2 = true) → (encL x).length ≤ 512 * x.length := by
 induction x with
 | nil => intro _; simp [encL]
 | cons p x ih =>
  intro h
  have := ih fun q hq => h q (by simp [hq])
  obtain ⟨h1, h2, h3⟩ := h p (by simp)
  unfold encL at this ⊢
  rw [List.flatMap_cons, List.length_append, List.length_cons]
  unfold numsOk Wi.rightN at h3
  simp only [Bool.and_eq_true, decide_eq_true_eq] at h3
  have l1 := (Wi.vput_len 8 p.1.length (by omega)).2
  have l2 := (Wi.vput_len 8 p.2.data.length (by omega)).2
  have l3 := (Wi.vput_len 8 p.2.ver.toNat (by omega)).2
  have l4 := (Wi.vput_len 8 p.2.ctr.toNat (by omega)).2
  have l5 := (Wi.vput_len 8 p.2.own.toNat (by omega)).2
  have : (encN p).length ≤ 512 := by
   unfold encN Wi.blob
   simp only [List.length_append]
   omega
  omega
theorem encS_len {b : Nat} {st : St} (h : InvB b st) (hb : b ≤ 4398046511103) : (encS st).length ≤ 512 * st.length := by
 have h3 := h.inv3 (by omega)
 rw [encS_eq h3, ← (srt_perm st).length_eq]
 refine encL_len _ fun p hp => ?_
 have hp' := (srt_perm st).mem_iff.1 hp
 obtain ⟨h1, h2⟩ := h.inv.small p hp'
 exact ⟨h1, h2, (h3.nums _ _ ((lookup_iff h.inv.keys (k := p.1) (n := p.2)).2 hp')).1⟩
end Zt
end Go.Proofs.YthfpmipeejjogaaGreatDoor
