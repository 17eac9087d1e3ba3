/- MuH, MuE84, MuI, R7B, R7C, R7D, R7F, R7G, R7H, R7I, R7J, R7L, R7O, R7S, R7U, R7V, R8A, R8B, R8C, R8D -/
import Derived.Test.YthfpmipeejjogaaGreatDoorXL
set_option maxRecDepth 100000
set_option maxHeartbeats 4000000
set_option linter.unusedVariables false
set_option linter.unusedSimpArgs false
open Go.IntKind (i64)
open Go.Proofs.Tryz
namespace Go.Proofs.YthfpmipeejjogaaGreatDoor
namespace SL
open Go
variable {ro σ σ' : AH} {tag tag' : Nat → Nat}
theorem join_assoc (a b c : AH) : join a (join b c) = join (join a b) c := by
 funext x; unfold join; cases a x <;> rfl
theorem lent_two (a b : Nat) {K : AH → AH → Prop} (h : K (join (one σ a) (one (del σ a) b)) (del (del σ a) b)) : lent σ K := by
 refine ⟨_, _, fun c o hc => ?_, ?_, h⟩
 ·unfold join one del at hc; unfold del
  by_cases e : c = a
  ·simp [e]
  ·by_cases e' : c = b
   ·simp [e']
   ·simp [e, e'] at hc
 ·funext c; unfold join one del
  by_cases e : c = a
  ·subst e
   cases h : σ c <;> simp
  ·by_cases e' : c = b
   ·subst e'; cases h : σ c <;> simp [e]
   ·simp [e, e']
theorem acell_ro {ψ τ : AH} {a : Addr} {v : Value} (h : acell ro (fun _ => none) a = some v) : acell (join ro ψ) τ a = some v := by
 unfold acell rd at h ⊢
 cases e : ro a.block with
 | none => rw [e] at h; simp [cellOf] at h
 | some o => rw [e] at h; rw [join_left e]; exact h
theorem cellsAt_ro {ψ τ : AH} {a : Addr} : ∀ {l : List Value} {i : Nat}, cellsAt ro (fun _ => none) a i l → cellsAt (join ro ψ) τ a i l
 | [], _, _ => trivial
 | _ :: _, _, h => ⟨acell_ro h.1, cellsAt_ro h.2⟩
theorem Read.ro' {ψ : AH} {s : Sl} {l : List Value} (h : Read ro (fun _ => none) s l) : Read (join ro ψ) (fun _ => none) s l :=
 ⟨h.1, h.2.1, fun p hp i v hv => acell_ro (h.2.2 p hp i v hv)⟩
theorem StepS.back {C : List Nat} {b : Nat} {τ : AH} (h : StepS C (join ro (one σ b)) tag (del σ b) tag' τ) (hs : Sep ro σ) (hd : Disj (one σ b) τ) (hb : ∃ o, σ b = some o) : StepS C ro tag σ (setTag tag' b (tag b)) (join (one σ b) τ) := by
 obtain ⟨R, h1, h2⟩ := h
 exact ⟨R, h1, h2.back hs hd hb⟩
theorem del_some {a b : Nat} {o : Obj} (h : σ b = some o) (hne : b ≠ a) : del σ a b = some o := by unfold del; rw [if_neg hne]; exact h
theorem disj_l {a b c : AH} (h : Disj (join a b) c) : Disj a c := fun x o hx => h x o (by unfold join; rw [hx])
theorem disj_r {a b : Nat} {τ : AH} (h : Disj (join (one σ a) (one (del σ a) b)) τ) : Disj (one (del σ a) b) τ := fun x o hx => h x o (by
 unfold join one del at *
 by_cases e : x = a
 ·subst e
  split at hx
  ·simp at hx
  ·cases hx
 ·simp only [e, if_false]; simp only [e, if_false] at hx; exact hx)
theorem disj_j {a b : Nat} {τ : AH} (h : Disj (join (one σ a) (one (del σ a) b)) τ) (hne : a ≠ b) : Disj (one σ a) (join (one (del σ a) b) τ) := fun x o hx => by
 have h1 := disj_l h x o hx
 unfold join one del
 unfold one at hx
 split at hx
 ·rename_i e; subst e; simp only [hne, if_false]; exact h1
 ·cases hx
end SL
namespace Zt
open Go SL G Pa
variable {B : World} {ro σ σ' : AH} {tag tag' : Nat → Nat}
theorem OpsR.ro' {ψ : AH} {s : Sl} {ops : List MOp} (h : OpsR ro s ops) : OpsR (join ro ψ) s ops := by
 refine ⟨h.1, fun j o ho => ?_⟩
 obtain ⟨q, ds, h1, h2, h3, h4⟩ := h.2 j o ho
 exact ⟨q, ds, h1, fun σ => cellsAt_ro (h2 _), h3.ro', h4⟩
structure Txn where
 home : Str
 owner : Int
 qn : Int
 qb : Int
 ops : List MOp
 sweep : Bool
def txV (t : Txn) (s : Sl) : List Value := [.string (S t.home), .int .i64 t.owner, .int .i64 t.qn, .int .i64 t.qb, Sl.v s, .bool t.sweep]
def TxsR (ro : AH) (s : Sl) (txs : List Txn) : Prop := s.len = txs.length ∧ ∀ j t, txs[j]? = some t → ∃ q os, s.a = some q ∧ (∀ σ, SL.cellsAt ro σ (q.add (j * 6)) 0 (txV t os)) ∧ t.home.length ≤ reachBytes ∧ OpsR ro os t.ops ∧ t.ops.length ≤ 2199023255488
theorem TreeIs.del' {r T b x : Nat} {st : St} (h : TreeIs tag σ r T st) (hb : tag b = x) (hx : x < 64) (hr : r < 64) (hxr : x ≠ r) (hx6 : x ≠ 6) : TreeIs tag (SL.del σ b) r T st := by
 obtain ⟨M, bs, h⟩ := h
 refine ⟨M, bs, h.keys, h.len, h.nd, h.cell.del hb (Ne.symm hxr), h.map.del (by rw [hb]; omega), fun i c p hc hp => ?_⟩
 obtain ⟨s, h1, h2⟩ := h.nodes i c p hc hp
 exact ⟨s, h1.del hb (by omega), h2.del hb (by omega)⟩
theorem eqint {a : Int} {τ : AH} : aread prog ro (Op.equalIn (9998 + 1) 3 (.int .i64 a) (.int .i64 a)) τ = some true := by
 unfold Op.equalIn
 show aread prog ro (Sem.bind (underlying 3) _) _ = _
 rw [underlying_bind _ _ (by kernel_rfl : prog.underlying 3 = some (.int .i64))]
 show some (a == a) = some true
 simp
theorem aread_bind {α β : Type} {P : Program} (s : Sem α) (f : α → Sem β) {τ : AH} {a : α} (h : aread P ro s τ = some a) : aread P ro (Sem.bind s f) τ = aread P ro (f a) τ := by
 induction s with
 | pure x => cases h; rfl
 | load m x k ih =>
  simp only [aread] at h
  simp only [Sem.bind, aread]
  split at h
  ·exact ih _ h
  ·cases h
 | program k ih => exact ih _ h
 | mark m k ih => exact ih h
 | _ => cases h
theorem RowW.back {r : Nat} {e : TypeId} {w : Nat} {s : Sl} {l : List (List Value)} {b r' : Nat} {τ : AH} (h : RowW tag' τ r e w s l) (hd : Disj (SL.one σ b) τ) (hb : ∃ o, σ b = some o) : RowW (setTag tag' b r') (join (SL.one σ b) τ) r e w s l := by
 rcases h with h | ⟨c, cs, ha, ht, hs, hx⟩
 ·exact .inl h
 ·have hcb : c ≠ b := fun e => by
   obtain ⟨o, ho⟩ := hb
   have := hd b o (by unfold SL.one; rw [if_pos rfl]; exact ho)
   rw [← e, hs] at this; cases this
  exact .inr ⟨c, cs, ha, by unfold setTag; rw [if_neg hcb]; exact ht, by unfold join SL.one; rw [if_neg hcb]; exact hs, hx⟩
theorem region_back {X : Nat} {C : List Nat} {tag1 : Nat → Nat} {σ1 : AH} (hs : SL.Sep ro σ) (hX : ∃ o, σ X = some o) (hd : Disj (SL.one σ X) σ1) (st : StepS C (join ro (SL.one σ X)) tag (SL.del σ X) tag1 σ1) :
  ∃ tag2, StepS C ro tag σ tag2 (join (SL.one σ X) σ1) ∧ (∀ r T st, TreeIs tag1 σ1 r T st → TreeIs tag2 (join (SL.one σ X) σ1) r T st) ∧ (∀ r e w s l, RowW tag1 σ1 r e w s l → RowW tag2 (join (SL.one σ X) σ1) r e w s l) ∧ (∀ r e s l, Row tag1 σ1 r e s l → Row tag2 (join (SL.one σ X) σ1) r e s l) :=
 ⟨_, StepS.back st hs hd hX, fun r T st h => h.back hd hX, fun r e w s l h => RowW.back h hd hX, fun r e s l h => h.back hd hX⟩
end Zt
namespace SL
open Go
variable {ro σ σ' : AH} {tag tag' : Nat → Nat}
theorem acell_lent (b : Nat) (a : Addr) : acell (join ro (one σ b)) (SL.del σ b) a = acell ro σ a := by unfold acell; rw [rd_lent]
theorem acell_one {a : Addr} {v : Value} {τ : AH} (h : acell ro σ a = some v) : acell (join ro (one σ a.block)) τ a = some v := by
 unfold acell rd at h ⊢
 unfold join one
 cases e : ro a.block with
 | some o => rw [e] at h; exact h
 | none =>
  rw [e] at h
  simp only [if_true]
  cases e' : σ a.block with
  | some o => rw [e'] at h; exact h
  | none => rw [e'] at h; simp [cellOf] at h
end SL
namespace Zt
open Go SL G Pa
variable {B : World} {ro σ σ' : AH} {tag tag' : Nat → Nat}
def RefIs (tag : Nat → Nat) (σ : AH) (r T : Nat) (l : St) : Prop := ∃ (s : Sl) (ds : List Sl), ds.length = l.length ∧ Row tag σ r 157 ⟨some ⟨T, 0, none⟩, 1, 1⟩ [Sl.v s] ∧ RowW tag σ (r + 64) 159 5 s (List.zipWith nodeV l ds) ∧
 ∀ (i : Nat) (p : Str × Nd) (d : Sl), l[i]? = some p → ds[i]? = some d → Row tag σ 6 5 d (p.2.data.map vU)
theorem RefIs.keepS {C : List Nat} {r T : Nat} {l : St} (h : RefIs tag σ r T l) (k : StepS C ro tag σ tag' σ') (hr : r % 64 ∉ C := by decide) (h6 : 6 ∉ C := by decide) : RefIs tag' σ' r T l := by
 obtain ⟨s, ds, h1, h2, h3, h4⟩ := h
 exact ⟨s, ds, h1, h2.keepS k hr, RowW.keepS h3 k (by rw [show (r + 64) % 64 = r % 64 by omega]; exact hr), fun i p d hp hd => (h4 i p d hp hd).keepS k h6⟩
theorem RefIs.m {r T : Nat} {l : St} (h : RefIs tag σ r T l) (hs : SL.Sep ro σ) : RefM ro σ T l := by
 obtain ⟨s, ds, h1, h2, h3, h4⟩ := h
 obtain ⟨p, hp, hg⟩ := h2.ptr hs (by simp)
 cases hp
 have hl := h3.len
 rw [List.length_zipWith, h1, Nat.min_self] at hl
 refine ⟨s, by have := hg 0 _ rfl; rwa [Nat.zero_mul, add_zero] at this, hl, fun j p hj => ?_⟩
 have hjl : j < l.length := by
  rcases Nat.lt_or_ge j l.length with h | h
  ·exact h
  ·rw [List.getElem?_eq_none h] at hj; cases hj
 have hd : ds[j]? = some ds[j] := List.getElem?_eq_getElem (by omega)
 obtain ⟨b, ha, _, hc⟩ := RowW.get h3 hs (j := j) (x := nodeV p ds[j]) (by rw [List.getElem?_zipWith, hj, hd])
 exact ⟨b, ds[j], ha, hc, (h4 j p _ hj hd).read hs⟩
theorem RefM.lent {T : Nat} {l : St} (b : Nat) (h : RefM ro σ T l) : RefM (join ro (SL.one σ b)) (SL.del σ b) T l := by
 obtain ⟨s, h1, h2, h3⟩ := h
 refine ⟨s, by rw [acell_lent]; exact h1, h2, fun j p hj => ?_⟩
 obtain ⟨c, d, ha, hc, hd⟩ := h3 j p hj
 exact ⟨c, d, ha, fun i v hv => by rw [acell_lent]; exact hc i v hv, hd.lent b⟩
theorem RefIs.blocks {r T : Nat} {l : St} {p : Str × Nd} {j : Nat} (h : RefIs tag σ r T l) (hr : r < 64) (hj : l[j]? = some p) : ∃ (s : Sl) (b : Nat), s.a = some ⟨b, 0, none⟩ ∧ s.len = l.length ∧ tag b = r + 64 ∧ tag T = r ∧ (∃ o, σ b = some o) ∧ (∃ o, σ T = some o) ∧ T ≠ b ∧ ∀ ro, SL.Sep ro σ → acell ro σ ⟨T, 0, none⟩ = some (Sl.v s) := by
 obtain ⟨s, ds, h1, h2, h3, h4⟩ := h
 have hl := h3.len
 rw [List.length_zipWith, h1, Nat.min_self] at hl
 obtain ⟨tT, oT⟩ := h2.tagOf
 have hjl : j < l.length := by
  rcases Nat.lt_or_ge j l.length with h | h
  ·exact h
  ·rw [List.getElem?_eq_none h] at hj; cases hj
 rcases h3 with ⟨rfl, _⟩ | ⟨b, cs, ha, ht, hb, hx⟩
 ·simp at hl; omega
 ·refine ⟨s, b, ha, hl, ht, tT, ⟨_, hb⟩, oT, fun e => ?_, fun ro hs => ?_⟩
  ·rw [← e] at ht; omega
  ·obtain ⟨p, hp, hg⟩ := h2.ptr hs (by simp)
   cases hp
   have := hg 0 _ rfl
   rwa [Nat.zero_mul, add_zero] at this
theorem rparts2_ok {s : ByteArray} {Q : Sl → Bool → AH → Prop} (r : Nat) (hs : SL.Sep ro σ) (hnone : parts (L s) = none → ∀ sl tag' σ', Step [] ro tag σ tag' σ' → Q sl false σ')
  (hsome : ∀ ps, parts (L s) = some ps → ∀ sl tag' σ', Step [] ro tag σ tag' σ' → Row tag' σ' r 9 sl (ps.map Pa.vS) → Q sl true σ') : c_ref02_Parts B ro s σ Q := by
 have base : c_ref02_Parts B ro s (fun _ => none) (fun sl e σ' => (parts (L s) = none ∧ e = false) ∨ ∃ ps tag', parts (L s) = some ps ∧ e = true ∧ Row tag' σ' r 9 sl (ps.map Pa.vS)) :=
  Pa.rparts_ok (tag := fun _ => 0) r (fun h _ _ => .inl ⟨h, rfl⟩) fun ps h sl tag' σ' _ hr => .inr ⟨ps, tag', h, rfl, hr⟩
 have fr := c_ref02_Parts_frame (ψ := σ) base (fun b o h => by cases h)
 have e : join (fun _ => none) σ = σ := by funext b; rfl
 rw [e] at fr
 refine c_ref02_Parts_mono fr ?_
 rintro sl ev σ' hsep ⟨τ, rfl, hd, hq⟩
 have keep : ∀ (tg : Nat → Nat), (∀ b, τ b = none → tg b = tag b) → Step [] ro tag σ tg (join τ σ) := fun tg htg => by
  have hn : ∀ b o, σ b = some o → τ b = none := fun b o ho => by
   cases h : τ b with
   | none => rfl
   | some x => have := hd b x h; rw [ho] at this; cases this
  refine ⟨fun b o ho _ => ⟨htg b (hn b o ho), join_right hd ho⟩, fun b o ho => ⟨htg b (hn b o ho), o, join_right hd ho⟩, hsep⟩
 rcases hq with ⟨h, rfl⟩ | ⟨ps, tg, h, rfl, hr⟩
 ·exact hnone h sl tag _ (keep tag fun _ _ => rfl)
 ·refine hsome ps h sl (fun b => if (τ b).isSome then tg b else tag b) _ (keep _ fun b hb => by simp [hb]) ?_
  rcases hr with h | ⟨b, cs, ha, ht, hb, hx⟩
  ·exact .inl h
  ·exact .inr ⟨b, cs, ha, by simp [hb, ht], by unfold join; rw [hb], hx⟩
theorem fnd_spec {l : St} {k : Str} : ∀ (i : Nat), (l.lookup k = none ∧ fnd l k i = -1) ∨ ∃ j n, l[j]? = some (k, n) ∧ l.lookup k = some n ∧ fnd l k i = ((i + j : Nat) : Int) := by
 induction l with
 | nil => intro i; exact .inl ⟨rfl, rfl⟩
 | cons p r ih =>
  intro i
  obtain ⟨q, n⟩ := p
  by_cases c : q = k
  ·subst c
   exact .inr ⟨0, n, rfl, by simp, by simp [fnd]⟩
  ·have hne : (k == q) = false := by simpa using fun e => c e.symm
   rcases ih (i + 1) with ⟨h1, h2⟩ | ⟨j, n', h1, h2, h3⟩
   ·exact .inl ⟨by rw [List.lookup_cons, hne]; exact h1, by unfold fnd; rw [if_neg c]; exact h2⟩
   ·exact .inr ⟨j + 1, n', by simpa using h1, by rw [List.lookup_cons, hne]; exact h2, by unfold fnd; rw [if_neg c, h3]; congr 1; omega⟩
theorem get7_ok {r T : Nat} {l : St} {k : Str} {Q : ByteArray → Sl → Int → Int → Int → Int → Int → AH → Prop} (hr : r < 64) (hr0 : r ≠ 0) (hr6 : r ≠ 6) (h : RefIs tag σ r T l) (hl : l.length ≤ 4294967296)
  (hbad : parts k = none → ∀ tag' σ', StepS [0] ro tag σ tag' σ' → Q ByteArray.empty ⟨none, 0, 0⟩ 0 0 0 0 20 σ')
  (hmiss : ∀ ps, parts k = some ps → l.lookup k = none → ∀ tag' σ', StepS [0] ro tag σ tag' σ' → Q ByteArray.empty ⟨none, 0, 0⟩ 0 0 0 0 70 σ')
  (hhit : ∀ n, l.lookup k = some n → ∀ d tag' σ', StepS [0] ro tag σ tag' σ' → Row tag' σ' 6 5 d (n.data.map vU) → Q (S k) d n.ver n.ctr n.own ((kc (l.map (·.1)) k : Nat) : Int) 0 σ') :
  c_ref07_Tree_Get B ro (some ⟨T, 0, none⟩) (S k) σ Q := by
 refine ref07_Tree_Get_ok fun hs => ?_
 unfold f_ref07_Tree_Get
 refine nw_cells (tag := tag) 0 hs fun X tag1 σ1 st1 r1 => ?_
 have fin : ∀ (e : Int) tag2 σ2, StepS [0] ro tag σ tag2 σ2 → Row tag2 σ2 0 159 ⟨some ⟨X, 0, none⟩, 5, 5⟩ [.string ByteArray.empty, Sl.v ⟨none, 0, 0⟩, .int .i64 0, .int .i64 0, .int .i64 0] → (∀ tag' σ', StepS [0] ro tag σ tag' σ' → Q ByteArray.empty ⟨none, 0, 0⟩ 0 0 0 0 e σ') →
   stN ⟨X, 0, none⟩ (fun σ => ∃ (x4_4a : ByteArray) (x4_4b : Sl) (x4_4c : Int) (x4_4d : Int) (x4_4e : Int), SL.cellsAt ro σ ⟨X, 0, none⟩ 0 [.string x4_4a, Sl.v x4_4b, .int .i64 x4_4c, .int .i64 x4_4d, .int .i64 x4_4e] ∧ Q x4_4a x4_4b x4_4c x4_4d x4_4e 0 e σ) [.string ByteArray.empty, Sl.v (⟨none, 0, 0⟩ : Sl), .int .i64 0, .int .i64 0, .int .i64 0] 0 σ2 := by
  intro e tag2 σ2 st2 r2 hq
  refine stA_cells r2 st2.sep rfl (by simp [storable, Sl.v]) fun σ3 st3 r3 c3 => ?_
  exact ⟨_, _, _, _, _, c3, hq tag2 σ3 (st2.trans (st3.s (by simp)))⟩
 refine rparts2_ok (tag := tag1) 22 (st1 []).sep (fun hb sl tag2 σ2 st2 => ?_) fun ps hps sl tag2 σ2 st2 _ => ?_
 ·rw [if_pos (by simp)]
  rw [L_S] at hb
  exact fin 20 tag2 σ2 (((st1 []).s (by simp)).trans (st2.s (by simp))) (r1.keep st2) (hbad hb)
 rw [if_neg (by simp)]
 rw [L_S] at hps
 have st02 : StepS [0] ro tag σ tag2 σ2 := ((st1 []).s (by simp)).trans (st2.s (by simp))
 have h2 := (h.keepS ((st1 []).s (C := []) (by simp)) (by simp) (by simp)).keepS (st2.s (C := []) (by simp)) (by simp) (by simp)
 have r2 := r1.keep st2
 have hs2 := st02.sep
 refine find7_ok (h2.m hs2) hl ?_
 rcases fnd_spec (l := l) (k := k) 0 with ⟨e1, e2⟩ | ⟨j, n, e1, e2, e3⟩
 ·rw [e2, if_pos (by decide)]
  exact fin 70 tag2 σ2 st02 r2 (hmiss ps hps e1)
 rw [e3, if_neg (by omega), Nat.zero_add]
 obtain ⟨s, b, ha, hsl, tb, tT, hbo, hTo, hne, hcT⟩ := h2.blocks hr e1
 have hjl : j < l.length := by
  rcases Nat.lt_or_ge j l.length with h | h
  ·exact h
  ·rw [List.getElem?_eq_none h] at e1; cases e1
 obtain ⟨s', ds, g1, g2, g3, g4⟩ := id h2
 have hss : s' = s := by
  obtain ⟨p, hp, hg⟩ := g2.ptr hs2 (by simp)
  cases hp
  have h0 := hg 0 _ rfl
  rw [Nat.zero_mul, add_zero] at h0
  have := (hcT ro hs2).symm.trans h0
  injection this with this
  injection this with h1 h2 h3
  cases s; cases s'; simp_all
 subst hss
 have hgd : ds[j]? = some ds[j] := List.getElem?_eq_getElem (by omega)
 obtain ⟨b', ha', _, hcell⟩ := RowW.get g3 hs2 (j := j) (x := nodeV (k, n) ds[j]) (by rw [List.getElem?_zipWith, e1, hgd])
 have hdr := g4 j _ _ e1 hgd
 generalize ds[j] = d at hcell hdr
 obtain rfl : b' = b := by rw [ha] at ha'; cases ha'; rfl
 refine lent_two T b' ?_
 rw [join_assoc]
 have hsA : SL.Sep (join ro (SL.one σ2 T)) (SL.del σ2 T) := hs2.lent
 have hsB := hsA.lent (b := b')
 refine ⟨_, rfl, s', acell_ro (acell_one (hcT ro hs2)), _, ha, by omega, by omega, S k, d, n.ver, n.ctr, n.own, cellsAt_of 0 fun i v hv => ?_, ?_⟩
 ·rw [Int.toNat_natCast, add_add, add_add, Nat.zero_add, Nat.zero_add]
  refine acell_one (a := ⟨b', j * 5 + i, none⟩) ?_
  rw [acell_lent]
  exact hcell i v hv
 refine below7_ok ((h2.m hs2).lent T |>.lent b') hl ?_
 have tX := r2.tagOf.1
 have rX := (r2.del tT (Ne.symm hr0)).del tb (by omega)
 refine rX.stAll hsB rfl (by simp [storable, Sl.v]) fun σ3 st3 r3 => ?_
 intro hdis
 have hbA : ∃ o, SL.del σ2 T b' = some o := by
  obtain ⟨o, ho⟩ := hbo
  exact ⟨o, del_some ho (Ne.symm hne)⟩
 have dX := disj_j hdis hne
 have stA := st3.back hsA (disj_r hdis) hbA
 have stB := stA.back hs2 dX hTo
 have r4 := (r3.back (r' := tag2 b') (disj_r hdis) hbA).back (r' := tag2 T) dX hTo
 rw [← join_assoc]
 have c4 := Row.cellsAt r4 stB.sep
 refine ⟨_, _, _, _, _, c4, hhit n e2 d _ _ (st02.trans (stB.s (by simp))) ?_⟩
 exact hdr.keepS (stB.s (C := [0]) (by simp))
theorem RefM.row {T j : Nat} {l : St} {p : Str × Nd} (h : RefM ro σ T l) (hj : l[j]? = some p) : ∃ (s : Sl) (b : Nat) (d : Sl), acell ro σ ⟨T, 0, none⟩ = some (Sl.v s) ∧ s.len = l.length ∧ s.a = some ⟨b, 0, none⟩ ∧ ∀ (i : Nat) (v : Value), (nodeV p d)[i]? = some v → acell ro σ (((⟨b, 0, none⟩ : Addr).add (Int.toNat (j : Int) * 5)).add i) = some v := by
 obtain ⟨s, h1, h2, h3⟩ := h
 obtain ⟨b, d, ha, hc, _⟩ := h3 j p hj
 exact ⟨s, b, d, h1, h2, ha, fun i v hv => by rw [Int.toNat_natCast, add_add, add_add, Nat.zero_add]; exact hc i v hv⟩
theorem RefM.len {T : Nat} {l : St} (h : RefM ro σ T l) : ∃ s : Sl, acell ro σ ⟨T, 0, none⟩ = some (Sl.v s) ∧ s.len = l.length := by
 obtain ⟨s, h1, h2, _⟩ := h
 exact ⟨s, h1, h2⟩
theorem contains_ok {s : Sl} {ws : List Int} {n : Int} {Q : Bool → AH → Prop} (h : SL.Read ro σ s (ws.map vI)) (hl : ws.length ≤ 4611686018427387903) (hQ : Q (decide (n ∈ ws)) σ) : c_slices_Contains_int_int B ro s n σ Q := by
 refine slices_Contains_int_int_ok fun _ => ?_
 unfold f_slices_Contains_int_int
 refine slices_Index_int_int_ok fun _ => ?_
 unfold f_slices_Index_int_int
 obtain ⟨a1, a2, a3⟩ := h
 rw [List.length_map] at a1
 suffices ∀ m j, j + m = ws.length → (∀ i, i < j → ws[i]? ≠ some n) → lfpD (l2_slices_Index_int_int B ro s n fun x7_1 σ => Q (decide (0 ≤ x7_1)) σ) (j : Int) σ from this _ 0 (Nat.zero_add _) fun i h => absurd h (Nat.not_lt_zero _)
 intro m
 induction m with
 | zero =>
  intro j hj hno
  refine lfpD.intro ?_
  unfold l2_slices_Index_int_int
  rw [if_neg (by omega)]
  unfold j1_slices_Index_int_int
  rw [decide_eq_false (fun hm => ?_)] at hQ
  ·exact hQ
  ·obtain ⟨i, hi, e⟩ := List.getElem_of_mem hm
   exact hno i (by omega) (by rw [List.getElem?_eq_getElem hi, e])
 | succ m ih =>
  intro j hj hno
  have hjl : j < ws.length := by omega
  obtain ⟨p, hp⟩ : ∃ p, s.a = some p := by
   cases e : s.a with
   | none => have := a2 e; simp at this; rw [this] at hjl; simp at hjl
   | some p => exact ⟨p, rfl⟩
  refine lfpD.intro ?_
  unfold l2_slices_Index_int_int
  rw [if_pos (by omega)]
  refine ⟨p, hp, by omega, by omega, ws[j], by rw [Int.toNat_natCast, Nat.mul_one]; exact a3 p hp j _ (by rw [List.getElem?_map, List.getElem?_eq_getElem hjl]; rfl), ?_⟩
  by_cases c : n = ws[j]
  ·rw [if_pos c]
   rw [decide_eq_true (by rw [c]; exact List.getElem_mem hjl)] at hQ
   rw [decide_eq_true (by omega)]; exact hQ
  ·rw [if_neg c, Pa.inc j (by omega)]
   refine ih (j + 1) (by omega) fun i hi => ?_
   rcases Nat.lt_or_ge i j with h | h
   ·exact hno i h
   ·obtain rfl : i = j := by omega
    rw [List.getElem?_eq_getElem hjl]
    exact fun e => c (Option.some.inj e).symm
def isOwned (st : St) (ws : List Int) (k : Str) : Bool := match st.lookup k with
 | some n => decide (n.own ≠ 0 ∧ n.own ∈ ws)
 | none => false
theorem owned_ok {r T q : Nat} {st : St} {a1 : Sl} {ws : List Int} {Q : Sl → AH → Prop} (hr : r < 64) (hr0 : r ≠ 0) (hq : q < 64) (hqr : q ≠ r) (hq6 : q ≠ 6) (h : TreeIs tag σ r T st) (hs : ∀ p ∈ st, p.1.length ≤ 128) (hn : st.length ≤ 4294967296) (hw : SL.Read ro (fun _ => none) a1 (ws.map vI)) (hwl : ws.length ≤ 4611686018427387903)
  (hQ : ∀ (s : Sl) (tag' : Nat → Nat) (σ' : AH) (ks : List Str), StepS [0, q] ro tag σ tag' σ' → ks.Perm (st.map (·.1)) → ks.Pairwise (· ≤ ·) → Row tag' σ' q 9 s ((ks.filter fun k => isOwned st ws k).map Pa.vS) → Q s σ') : c_ztree_Tree_Owned B ro (some ⟨T, 0, none⟩) a1 σ Q := by
 obtain ⟨M, bs, hA⟩ := h
 refine ztree_Tree_Owned_ok fun hsep => ?_
 unfold f_ztree_Tree_Owned
 refine paths_ok (q := q + 64) hA hs (by omega) fun s tag2 σ2 ks st2 hpm hsrt hr2 => ?_
 have hln : s.len = ks.length := by rw [hr2.len, List.length_map]
 have hkl : ks.length = st.length := by rw [hpm.length_eq, List.length_map]
 suffices ∀ m j (so : Sl) tag3 σ3, j + m = ks.length → Step [q] ro tag2 σ2 tag3 σ3 → Row tag3 σ3 q 9 so (((ks.take j).filter fun k => isOwned st ws k).map Pa.vS) → lfpD (l4_ztree_Tree_Owned B ro (some ⟨T, 0, none⟩) a1 s Q) (so, (j : Int)) σ3 from
  this _ 0 ⟨none, 0, 0⟩ tag2 σ2 (Nat.zero_add _) (Step.refl (st2 []).sep) (Row.nil q 9)
 intro m
 induction m with
 | zero =>
  intro j so tag3 σ3 hj st3 hso
  refine lfpD.intro ?_
  unfold l4_ztree_Tree_Owned
  simp only
  rw [if_neg (by omega)]
  unfold j1_ztree_Tree_Owned
  rw [List.take_of_length_le (by omega)] at hso
  exact hQ so tag3 σ3 ks (((st2 []).s (by simp)).trans (st3.s (by simp [Nat.mod_eq_of_lt hq]))) hpm hsrt hso
 | succ m ih =>
  intro j so tag3 σ3 hj st3 hso
  have hjl : j < ks.length := by omega
  have hs3 := hr2.keep st3
  obtain ⟨pp, hpp, _, hget⟩ := Row.sget hs3 st3.sep hjl
  have hA3 := (hA.keep (st2 [])).keep st3 (by simp; omega)
  have etk : ks.take (j + 1) = ks.take j ++ [ks[j]] := by rw [List.take_add_one, List.getElem?_eq_getElem hjl]; rfl
  have hnl : ((ks.take j).filter fun x => isOwned st ws x).length ≤ j := by
   refine Nat.le_trans (List.length_filter_le _ _) ?_
   rw [List.length_take]; omega
  refine lfpD.intro ?_
  unfold l4_ztree_Tree_Owned
  simp only
  rw [if_pos (by omega)]
  refine ⟨pp, hpp, by omega, by omega, S ks[j], hget j hjl, _, rfl, _, Row.cell1 hA3.cell st3.sep, ?_⟩
  refine awp_lookup_str hA3.map st3.sep u126 u9 ty129 ?_
  rcases kv_lookup st bs ks[j] hA.len with ⟨a, e⟩ | ⟨i, b, n, a1', a2', a3', e⟩
  ·exact absurd (hpm.mem_iff.1 (List.getElem_mem hjl)) (lookup_none a)
  rw [e]
  obtain ⟨ds, hnd, _⟩ := hA3.nodes i b _ a1' a2'
  obtain ⟨pb, hpb, hgb⟩ := hnd.ptr st3.sep (by simp)
  cases hpb
  refine ⟨some ⟨b, 0, none⟩, rfl, _, rfl, n.own, hgb 2 _ rfl, ?_⟩
  have hio : isOwned st ws ks[j] = decide (n.own ≠ 0 ∧ n.own ∈ ws) := by unfold isOwned; rw [a3']
  have go : ∀ x : Bool, x = isOwned st ws ks[j] → j16_ztree_Tree_Owned B ro (some ⟨T, 0, none⟩) a1 so s (j : Int) (S ks[j]) Q (lfpD (l4_ztree_Tree_Owned B ro (some ⟨T, 0, none⟩) a1 s Q)) x σ3 := fun x hx => by
   unfold j16_ztree_Tree_Owned
   cases x with
   | true =>
    rw [if_pos rfl]
    refine nw_cells (tag := tag3) 0 st3.sep fun X tag4 σ4 st4 r4 => ?_
    refine awp_append1 (hso.keep (st4 [])) (st4 []).sep Pa.t25 ty9 rfl rfl (Row.cell1 r4 (st4 []).sep) rfl (by rw [List.length_map]; omega) (by decide) fun s' tag5 σ5 st5 r5 => ?_
    refine ⟨s', rfl, ?_⟩
    unfold j7_ztree_Tree_Owned
    rw [Pa.inc j (by omega)]
    refine ih (j + 1) s' tag5 σ5 (by omega) (st3.trans ((st4 _).trans st5)) ?_
    rw [etk, List.filter_append, List.filter_cons_of_pos hx.symm, List.filter_nil, List.map_append]
    exact r5
   | false =>
    rw [if_neg (by simp)]
    unfold j7_ztree_Tree_Owned
    rw [Pa.inc j (by omega)]
    refine ih (j + 1) so tag3 σ3 (by omega) st3 ?_
    rw [etk, List.filter_append, List.filter_cons_of_neg (by rw [← hx]; simp), List.filter_nil, List.append_nil]
    exact hso
  by_cases c0 : n.own = 0
  ·rw [if_neg (by simpa using c0)]
   exact go false (by rw [hio]; simp [c0])
  ·rw [if_pos c0]
   refine contains_ok hw.keep hwl ?_
   exact go _ (by rw [hio]; simp [c0])
theorem owned7_in {T q : Nat} {l : St} {a1 : Sl} {ws : List Int} {Q : Sl → AH → Prop} (hq : q < 64) (hq6 : q ≠ 6) (h : ∀ tag' σ', StepS [0, q] ro tag σ tag' σ' → RefM ro σ' T l) (hk : (l.map (·.1)).Nodup) (hl : l.length ≤ 4294967296) (hw : SL.Read ro (fun _ => none) a1 (ws.map vI)) (hwl : ws.length ≤ 4611686018427387903)
  (hQ : ∀ s tag' σ', StepS [0, q] ro tag σ tag' σ' → Row tag' σ' q 9 s (((l.map (·.1)).filter fun k => isOwned l ws k).map Pa.vS) → Q s σ') :
  c_ref07_Tree_Owned B ro (some ⟨T, 0, none⟩) a1 σ Q := by
 refine ref07_Tree_Owned_ok fun hs => ?_
 unfold f_ref07_Tree_Owned
 have hwlen : a1.len = ws.length := by rw [hw.1, List.length_map]
 suffices ∀ m j s tag3 σ3, j + m = l.length → StepS [0, q] ro tag σ tag3 σ3 → Row tag3 σ3 q 9 s ((((l.take j).map (·.1)).filter fun k => isOwned l ws k).map Pa.vS) → lfpD (l3_ref07_Tree_Owned B ro (some ⟨T, 0, none⟩) a1 Q) (s, (j : Int)) σ3 from
  this _ 0 _ tag σ (Nat.zero_add _) (StepS.refl hs) (Row.nil q 9)
 intro m
 induction m with
 | zero =>
  intro j s tag3 σ3 hj st3 r3
  have h3 := h tag3 σ3 st3
  obtain ⟨s0, e1, e2⟩ := h3.len
  refine lfpD.intro ?_
  unfold l3_ref07_Tree_Owned
  simp only
  refine ⟨_, rfl, s0, e1, ?_⟩
  rw [if_neg (by omega)]
  unfold j1_ref07_Tree_Owned
  rw [List.take_of_length_le (by omega)] at r3
  exact hQ s tag3 σ3 st3 r3
 | succ m ih =>
  intro j s tag3 σ3 hj st3 r3
  have hjl : j < l.length := by omega
  have h3 := h tag3 σ3 st3
  obtain ⟨s0, b, d, e1, e2, e3, e4⟩ := h3.row (List.getElem?_eq_getElem hjl)
  have etk : (l.take (j + 1)).map (·.1) = (l.take j).map (·.1) ++ [l[j].1] := by
   rw [List.take_add_one, List.getElem?_eq_getElem hjl, List.map_append]; rfl
  have hnl : (((l.take j).map (·.1)).filter fun k => isOwned l ws k).length ≤ j := by
   refine Nat.le_trans (List.length_filter_le _ _) ?_
   rw [List.length_map, List.length_take]; omega
  have hlk : l.lookup l[j].1 = some l[j].2 := (lookup_iff hk).2 (List.getElem_mem hjl)
  have hio : isOwned l ws l[j].1 = decide (l[j].2.own ≠ 0 ∧ l[j].2.own ∈ ws) := by unfold isOwned; rw [hlk]
  refine lfpD.intro ?_
  unfold l3_ref07_Tree_Owned
  simp only
  refine ⟨_, rfl, s0, e1, ?_⟩
  rw [if_pos (by omega)]
  suffices ∀ m' i, i + m' = ws.length → (∀ i', i' < i → l[j].2.own ≠ 0 → ws[i']? ≠ some l[j].2.own) → lfpD (l10_ref07_Tree_Owned B ro (some ⟨T, 0, none⟩) a1 (j : Int) Q (lfpD (l3_ref07_Tree_Owned B ro (some ⟨T, 0, none⟩) a1 Q))) (s, (i : Int)) σ3 from
   this _ 0 (Nat.zero_add _) fun i h => absurd h (Nat.not_lt_zero _)
  intro m'
  induction m' with
  | zero =>
   intro i hi hno
   refine lfpD.intro ?_
   unfold l10_ref07_Tree_Owned
   simp only
   rw [if_neg (by omega)]
   unfold j8_ref07_Tree_Owned
   rw [Pa.inc j (by omega)]
   refine ih (j + 1) s tag3 σ3 (by omega) st3 ?_
   have : isOwned l ws l[j].1 = false := by
    rw [hio, decide_eq_false_iff_not]
    rintro ⟨h0, hm⟩
    obtain ⟨i', hi', e⟩ := List.getElem_of_mem hm
    exact hno i' (by omega) h0 (by rw [List.getElem?_eq_getElem hi', e])
   rw [etk, List.filter_append, List.filter_cons_of_neg (by rw [this]; simp), List.filter_nil, List.append_nil]
   exact r3
  | succ m' ih' =>
   intro i hi hno
   have hil : i < ws.length := by omega
   refine lfpD.intro ?_
   unfold l10_ref07_Tree_Owned
   simp only
   rw [if_pos (by omega)]
   refine ⟨_, rfl, s0, e1, _, e3, by omega, by omega, l[j].2.own, e4 4 _ rfl, ?_⟩
   have skip : (l[j].2.own ≠ 0 → ws[i]? ≠ some l[j].2.own) → j17_ref07_Tree_Owned B ro (some ⟨T, 0, none⟩) a1 s (j : Int) (i : Int) Q (lfpD (l3_ref07_Tree_Owned B ro (some ⟨T, 0, none⟩) a1 Q)) (lfpD (l10_ref07_Tree_Owned B ro (some ⟨T, 0, none⟩) a1 (j : Int) Q (lfpD (l3_ref07_Tree_Owned B ro (some ⟨T, 0, none⟩) a1 Q)))) false σ3 := fun hne => by
    unfold j17_ref07_Tree_Owned
    rw [if_neg (by simp), Pa.inc i (by omega)]
    refine ih' (i + 1) (by omega) fun i' hi' h0 => ?_
    rcases Nat.lt_or_ge i' i with h | h
    ·exact hno i' h h0
    ·obtain rfl : i' = i := by omega
     exact hne h0
   by_cases c0 : l[j].2.own = 0
   ·rw [if_neg (by simpa using c0)]
    exact skip fun h => absurd c0 h
   rw [if_pos c0]
   obtain ⟨p, hp⟩ : ∃ p, a1.a = some p := by
    cases e : a1.a with
    | none => have := hw.2.1 e; simp at this; rw [this] at hil; simp at hil
    | some p => exact ⟨p, rfl⟩
   refine ⟨p, hp, by omega, by omega, ws[i], by rw [Int.toNat_natCast, Nat.mul_one]; exact hw.keep.2.2 p hp i _ (by rw [List.getElem?_map, List.getElem?_eq_getElem hil]; rfl), ?_⟩
   by_cases c1 : l[j].2.own = ws[i]
   ·rw [decide_eq_true c1]
    unfold j17_ref07_Tree_Owned
    rw [if_pos rfl]
    refine ⟨_, rfl, s0, e1, _, e3, by omega, by omega, S l[j].1, by have := e4 0 _ rfl; rwa [add_zero] at this, ?_⟩
    refine nw_cells (tag := tag3) 0 st3.sep fun X tag4 σ4 st4 r4 => ?_
    have r34 := r3.keep (st4 [])
    refine awp_append1 r34 (st4 []).sep Pa.t25 ty9 rfl rfl (Row.cell1 r4 (st4 []).sep) rfl (by rw [List.length_map]; omega) (by decide) fun s' tag5 σ5 st5 r5 => ?_
    refine ⟨s', rfl, ?_⟩
    unfold j8_ref07_Tree_Owned
    rw [Pa.inc j (by omega)]
    refine ih (j + 1) s' tag5 σ5 (by omega) (st3.trans (((st4 []).s (by simp)).trans (st5.s (by simp [Nat.mod_eq_of_lt hq])))) ?_
    have : isOwned l ws l[j].1 = true := by
     rw [hio, decide_eq_true_eq]
     exact ⟨c0, by rw [c1]; exact List.getElem_mem hil⟩
    rw [etk, List.filter_append, List.filter_cons_of_pos this, List.filter_nil, List.map_append]
    exact r5
   ·rw [decide_eq_false c1]
    exact skip fun _ e => c1 (by rw [List.getElem?_eq_getElem hil] at e; exact (Option.some.inj e).symm)
end Zt
namespace SL
open Go
variable {ro σ σ' σ1 : AH} {tag tag' tag1 : Nat → Nat}
theorem fresh_step {x : Nat} (hx : x ≠ 0) (st : Step [x] ro (fun _ => 0) σ tag1 σ1) (tag : Nat → Nat) (y : Nat) :
  ∃ tag', (∀ R, Step R ro tag σ tag' σ1) ∧ ∀ e s l, Row tag1 σ1 x e s l → Row tag' σ1 y e s l := by
 refine ⟨fun c => if (σ c).isSome then tag c else y, fun R => ⟨fun b o hb _ => ⟨by simp [hb], ?_⟩, fun b o hb => ⟨by simp [hb], o, ?_⟩, st.sep⟩, fun e s l h => ?_⟩
 ·exact (st.keep b o hb (by simp; omega)).2
 ·exact (st.keep b o hb (by simp; omega)).2
 ·rcases h with h | ⟨b, cs, ha, ht, hb, hx'⟩
  ·exact .inl h
  ·refine .inr ⟨b, cs, ha, ?_, hb, hx'⟩
   cases e : σ b with
   | none => simp [e]
   | some o =>
    have := (st.old b o e).1
    rw [ht] at this; exact absurd this hx
theorem Read.fresh {x : Nat} {s : Sl} {l : List Value} (hx : x ≠ 0) (h : Read ro σ s l) (st : Step [x] ro (fun _ => 0) σ tag1 σ1) : Read ro σ1 s l := by
 obtain ⟨tg, k, _⟩ := fresh_step hx st (fun _ => 0) 0
 exact h.step (k [])
end SL
namespace Zt
open Go SL G Pa Wi
variable {B : World} {ro σ σ' : AH} {tag tag' : Nat → Nat}
theorem rput_ok {x : Int} {Q : Sl → AH → Prop} (h0 : 0 ≤ x) (hx : x ≤ 4611686018427387903) (hQ : ∀ s tag' σ', (∀ R, Step R ro tag σ tag' σ') → Row tag' σ' 6 5 s ((vput x.toNat).map vU) → Q s σ') : c_ref01_Put B ro x σ Q := by
 refine ref01_Put_ok fun hs => ?_
 unfold f_ref01_Put
 refine nw_cells (tag := fun _ => 0) 1 hs fun b tag1 σ1 st1 r1 => ?_
 have fin : ∀ s tag2 σ2, Step [1] ro (fun _ => 0) σ tag2 σ2 → Row tag2 σ2 1 5 s ((vput x.toNat).map vU) → Q s σ2 := fun s tag2 σ2 st2 r2 => by
  obtain ⟨tg, k1, k2⟩ := fresh_step (by decide) st2 tag 6
  exact hQ s tg σ2 k1 (k2 _ _ _ r2)
 suffices ∀ (m : Nat) (n : Nat) (acc : Str) (s : Sl) tag2 σ2, n < 128 ^ (m + 1) → n ≤ 4611686018427387903 → acc.length + m ≤ 20 → acc ++ vput n = vput x.toNat → Step [1] ro (fun _ => 0) σ tag2 σ2 → Row tag2 σ2 1 5 s (acc.map vU) → lfpD (l7_ref01_Put B ro Q) ((n : Int), s) σ2 by
  have := this 10 x.toNat [] _ tag1 σ1 (by omega) (by omega) (by simp) rfl (st1 _) r1
  rwa [Int.toNat_of_nonneg h0] at this
 intro m
 induction m with
 | zero =>
  intro n acc s tag2 σ2 hn hn2 hl he st2 r2
  refine lfpD.intro ?_
  unfold l7_ref01_Put
  simp only
  rw [if_neg (by omega)]
  unfold j2_ref01_Put
  refine nw_cells (tag := tag2) 0 st2.sep fun c tag3 σ3 st3 r3 => ?_
  refine awp_append1 (r2.keep (st3 [])) (st3 []).sep u30 ty5 rfl rfl (Row.cell1 r3 (st3 []).sep) rfl (by rw [List.length_map]; omega) (by decide) fun s' tag4 σ4 st4 r4 => ?_
  refine ⟨s', rfl, fin s' tag4 σ4 (st2.trans ((st3 _).trans st4)) ?_⟩
  rw [← he]
  unfold vput
  rw [if_pos (by omega), List.map_append]
  have : IntKind.u8.wrap (n : Int) = ((UInt8.ofNat n).toNat : Int) := by
   rw [u8_of n (by omega)]
   simp [IntKind.wrap, IntKind.signed, IntKind.bits]; omega
  rw [this] at r4
  exact r4
 | succ m ih =>
  intro n acc s tag2 σ2 hn hn2 hl he st2 r2
  refine lfpD.intro ?_
  unfold l7_ref01_Put
  simp only
  by_cases c : 128 ≤ n
  ·rw [if_pos (by omega)]
   refine nw_cells (tag := tag2) 0 st2.sep fun c' tag3 σ3 st3 r3 => ?_
   refine awp_append1 (r2.keep (st3 [])) (st3 []).sep u30 ty5 rfl rfl (Row.cell1 r3 (st3 []).sep) rfl (by rw [List.length_map]; omega) (by decide) fun s' tag4 σ4 st4 r4 => ?_
   refine ⟨s', rfl, ?_⟩
   have e1 : i64.wrap (Int.tdiv (n : Int) 128) = ((n / 128 : Nat) : Int) := by
    rw [Int.tdiv_eq_ediv_of_nonneg (by omega), SL.w64_eq (by omega) (by omega)]; omega
   rw [e1]
   have e2 : IntKind.u8.wrap (i64.wrap (128 + (Int.tmod (n : Int) 128))) = ((UInt8.ofNat (n % 128 + 128)).toNat : Int) := by
    rw [u8_of _ (by omega), Int.tmod_eq_emod_of_nonneg (by omega), SL.w64_eq (by omega) (by omega)]
    simp [IntKind.wrap, IntKind.signed, IntKind.bits]; omega
   rw [e2] at r4
   refine ih (n / 128) (acc ++ [UInt8.ofNat (n % 128 + 128)]) s' tag4 σ4 ?_ (by omega) (by simp; omega) ?_ (st2.trans ((st3 _).trans st4)) (by rw [List.map_append]; exact r4)
   ·rw [Nat.pow_succ] at hn
    exact Nat.div_lt_of_lt_mul (by omega)
   ·rw [← he]
    conv => rhs; unfold vput
    rw [if_neg (by omega), List.append_assoc]; rfl
  ·rw [if_neg (by omega)]
   unfold j2_ref01_Put
   refine nw_cells (tag := tag2) 0 st2.sep fun c tag3 σ3 st3 r3 => ?_
   refine awp_append1 (r2.keep (st3 [])) (st3 []).sep u30 ty5 rfl rfl (Row.cell1 r3 (st3 []).sep) rfl (by rw [List.length_map]; omega) (by decide) fun s' tag4 σ4 st4 r4 => ?_
   refine ⟨s', rfl, fin s' tag4 σ4 (st2.trans ((st3 _).trans st4)) ?_⟩
   rw [← he]
   unfold vput
   rw [if_pos (by omega), List.map_append]
   have : IntKind.u8.wrap (n : Int) = ((UInt8.ofNat n).toNat : Int) := by
    rw [u8_of n (by omega)]
    simp [IntKind.wrap, IntKind.signed, IntKind.bits]; omega
   rw [this] at r4
   exact r4
theorem rjoin_ok {a0 : Sl} {ss : List Sl} {ls : List Str} {Q : Sl → AH → Prop} (h : SL.Read ro σ a0 (ss.map Sl.v)) (hl : ls.length = ss.length) (hd : ∀ (i : Nat) (s : Sl) (l : Str), ss[i]? = some s → ls[i]? = some l → SL.Read ro σ s (l.map vU)) (hn : ls.flatten.length ≤ 140737488355328) (hs1 : ss.length ≤ 1000)
  (hQ : ∀ s tag' σ', (∀ R, Step R ro tag σ tag' σ') → Row tag' σ' 6 5 s (ls.flatten.map vU) → Q s σ') : c_ref01_Join B ro a0 σ Q := by
 refine ref01_Join_ok fun hs => ?_
 unfold f_ref01_Join
 refine nw_cells (tag := fun _ => 0) 1 hs fun b tag1 σ1 st1 r1 => ?_
 have ha : a0.len = ss.length := by rw [h.1, List.length_map]
 suffices ∀ (m j : Nat) (s : Sl) tag2 σ2, j + m = ss.length → Step [1] ro (fun _ => 0) σ tag2 σ2 → Row tag2 σ2 1 5 s ((ls.take j).flatten.map vU) → lfpD (l4_ref01_Join B ro a0 Q) (s, (j : Int)) σ2 from
  this _ 0 _ tag1 σ1 (Nat.zero_add _) (st1 _) r1
 intro m
 induction m with
 | zero =>
  intro j s tag2 σ2 hj st2 r2
  refine lfpD.intro ?_
  unfold l4_ref01_Join
  simp only
  rw [if_neg (by omega)]
  unfold j2_ref01_Join
  rw [List.take_of_length_le (by omega)] at r2
  obtain ⟨tg, k1, k2⟩ := fresh_step (by decide) st2 tag 6
  exact hQ s tg σ2 k1 (k2 _ _ _ r2)
 | succ m ih =>
  intro j s tag2 σ2 hj st2 r2
  have hjs : j < ss.length := by omega
  have hjl : j < ls.length := by omega
  have h2 := h.fresh (by decide) st2
  have hd2 := (hd j _ _ (List.getElem?_eq_getElem hjs) (List.getElem?_eq_getElem hjl)).fresh (by decide) st2
  obtain ⟨p, hp⟩ : ∃ p, a0.a = some p := by
   cases e : a0.a with
   | none => have := h.2.1 e; simp at this; rw [this] at hjs; simp at hjs
   | some p => exact ⟨p, rfl⟩
  have hcell := h2.2.2 p hp j (Sl.v ss[j]) (by rw [List.getElem?_map, List.getElem?_eq_getElem hjs]; rfl)
  have etk : (ls.take (j + 1)).flatten = (ls.take j).flatten ++ ls[j] := by
   rw [List.take_add_one, List.getElem?_eq_getElem hjl, List.flatten_append]; simp
  have hlen : (ls.take (j + 1)).flatten.length ≤ ls.flatten.length := by
   conv => rhs; rw [← List.take_append_drop (j + 1) ls, List.flatten_append, List.length_append]
   omega
  rw [etk, List.length_append] at hlen
  refine lfpD.intro ?_
  unfold l4_ref01_Join
  simp only
  rw [if_pos (by omega)]
  refine ⟨p, hp, by omega, by omega, ss[j], by rw [Int.toNat_natCast, Nat.mul_one]; exact hcell, ?_⟩
  refine awp_appendN r2 st2.sep hd2 u30 ty5 rfl (by simp [storable]) (by rw [List.length_map, List.length_map]; omega) (by decide) fun s' tag3 σ3 st3 r3 => ?_
  refine ⟨s', rfl, ?_⟩
  rw [Pa.inc j (by omega)]
  refine ih (j + 1) s' tag3 σ3 (by omega) (st2.trans (st3 _ (.inr (by simp)))) ?_
  rw [etk, List.map_append]; exact r3
theorem rblobp_ok {a0 : Sl} {d : Str} {Q : Sl → AH → Prop} (h : SL.Read ro σ a0 (d.map vU)) (hl : d.length ≤ 70368744177664) (hQ : ∀ s tag' σ', (∀ R, Step R ro tag σ tag' σ') → Row tag' σ' 6 5 s ((blob d).map vU) → Q s σ') : c_ref01_Blob B ro a0 σ Q := by
 refine ref01_Blob_ok fun hs => ?_
 unfold f_ref01_Blob
 have ha : a0.len = d.length := by rw [h.1, List.length_map]
 refine rput_ok (tag := tag) (by omega) (by omega) fun s1 tag1 σ1 st1 r1 => ?_
 rw [ha, Int.toNat_natCast] at r1
 refine nw_cells (tag := tag1) 0 (st1 []).sep fun b tag2 σ2 st2 r2 => ?_
 have hv := (vput_len 8 d.length (by omega)).2
 refine rjoin_ok (tag := tag2) (ss := [s1, a0]) (ls := [vput d.length, d]) (r2.read (st2 []).sep) rfl (fun i s l hs' hl' => ?_) (by simp; omega) (by simp) fun s tag3 σ3 st3 r3 => ?_
 ·rcases i with _ | _ | i
  ·cases hs'; cases hl'; exact (r1.keep (st2 [])).read (st2 []).sep
  ·cases hs'; cases hl'; exact (h.step (st1 [])).step (st2 [])
  ·cases hs'
 ·refine hQ s tag3 σ3 (fun R => (st1 R).trans ((st2 R).trans (st3 R))) ?_
  have : [vput d.length, d].flatten = blob d := by unfold blob; simp
  rw [this] at r3; exact r3
theorem upd_upd (σ : AH) (b : Nat) (x y : Obj) : upd (upd σ b x) b y = upd σ b y := by
 funext c; unfold upd; split <;> rfl
theorem awp_s2b {l : Str} {K : Value → AH → Prop} (hs : SL.Sep ro σ) (hK : ∀ s tag' σ', (∀ R, Step R ro tag σ tag' σ') → SL.Read ro σ' s (l.map vU) → K (Sl.v s) σ') : awp prog ro (convert 9 30 (.string (S l))) K σ := by
 unfold convert
 simp only [bind_def]
 rw [awp_underlying u9, awp_underlying u30]
 simp only
 rw [awp_underlying u5'']
 simp only
 unfold Conv.stringToBytes
 simp only [bind_def]
 refine awp_choose rfl fun n => ?_
 have hsz : (S l).size = l.length := by rw [← L_len, L_S]
 have hcut : (S l).size ≤ (Question.appendCap (S l).size 0 5).cut n := by simp only [Question.cut]; omega
 generalize (Question.appendCap (S l).size 0 5).cut n = N at hcut
 show ∀ b, ro b = none → σ b = none → awp prog ro (Sem.bind (markStringish ⟨b, 0, none⟩) fun _ => Sem.pure (Value.slice (some ⟨b, 0, none⟩) (S l).size N)) K (upd σ b _)
 intro b hro hb
 unfold markStringish
 show ∃ o, rd ro (upd σ b _) b = some o ∧ _
 refine ⟨_, by unfold rd; rw [hro]; exact upd_same _ _ _, ?_⟩
 show (1 : Nat) ≠ 0 ∧ ∃ o, upd σ b _ b = some o ∧ _
 refine ⟨by decide, _, upd_same _ _ _, ?_⟩
 rw [upd_upd]
 refine hK ⟨some ⟨b, 0, none⟩, (S l).size, N⟩ (setTag tag b 6) _ (fun _ => Step.fresh hs hro hb) ⟨by simp [hsz], (fun h => by cases h), fun p hp i v hv => ?_⟩
 cases hp
 have hi : i < l.length := by
  rcases Nat.lt_or_ge i l.length with h | h
  ·exact h
  ·rw [List.getElem?_eq_none (by simpa using h)] at hv; cases hv
 rw [add_add, Nat.zero_add]
 unfold acell rd
 rw [show ro (⟨b, i, none⟩ : Addr).block = none from hro]
 simp only [upd_same]
 rw [← hv]
 show (Array.map (fun b => Value.int IntKind.u8 (b.toNat : Int)) (S l).data ++ Array.replicate (N - (S l).size) (Value.int IntKind.u8 0))[i]? = _
 rw [Array.getElem?_append_left (by simp [S]; omega)]
 simp [S, vU]
theorem encode7_in {T : Nat} {l : St} {Q : Sl → AH → Prop} (h : ∀ tag' σ', StepS [0] ro tag σ tag' σ' → RefM ro σ' T l) (hl : l.length ≤ 4294967296) (hok : ∀ p ∈ l, p.1.length ≤ 128 ∧ p.2.data.length ≤ 256 ∧ numsOk p.2 = true)
  (hQ : ∀ s tag' σ', StepS [0] ro tag σ tag' σ' → Row tag' σ' 6 5 s ((encL l).map vU) → Q s σ') : c_ref07_Tree_Encode B ro (some ⟨T, 0, none⟩) σ Q := by
 refine ref07_Tree_Encode_ok fun hs => ?_
 unfold f_ref07_Tree_Encode
 refine nw_cells (tag := tag) 6 hs fun x6 tag1 σ1 st1 r1 => ?_
 suffices ∀ m j s tag3 σ3, j + m = l.length → StepS [0] ro tag σ tag3 σ3 → Row tag3 σ3 6 5 s ((encL (l.take j)).map vU) → lfpD (l4_ref07_Tree_Encode B ro (some ⟨T, 0, none⟩) Q) (s, (j : Int)) σ3 from
  this _ 0 _ tag1 σ1 (Nat.zero_add _) ((st1 []).s (by simp)) r1
 intro m
 induction m with
 | zero =>
  intro j s tag3 σ3 hj st3 r3
  have h3 := h tag3 σ3 st3
  obtain ⟨s0, e1, e2⟩ := h3.len
  refine lfpD.intro ?_
  unfold l4_ref07_Tree_Encode
  simp only
  refine ⟨_, rfl, s0, e1, ?_⟩
  rw [if_neg (by omega)]
  unfold j2_ref07_Tree_Encode
  rw [List.take_of_length_le (by omega)] at r3
  exact hQ s tag3 σ3 st3 r3
 | succ m ih =>
  intro j s tag3 σ3 hj st3 r3
  have hjl : j < l.length := by omega
  have hs3 := st3.sep
  have hgl := List.getElem?_eq_getElem hjl
  obtain ⟨s0, hT, hln, hrow⟩ := h tag3 σ3 st3
  obtain ⟨b, d, ha, hcell, hdr⟩ := hrow j _ hgl
  obtain ⟨o1, o2, o3⟩ := hok _ (List.getElem_mem hjl)
  have etk : l.take (j + 1) = l.take j ++ [l[j]] := by rw [List.take_add_one, hgl]; rfl
  have eenc : encL (l.take (j + 1)) = encL (l.take j) ++ encN l[j] := by rw [etk]; unfold encL; rw [List.flatMap_append, List.flatMap_cons, List.flatMap_nil, List.append_nil]
  have hel := encL_len (l.take (j + 1)) fun p hp => hok p (List.mem_of_mem_take hp)
  rw [eenc, List.length_append, List.length_take] at hel
  generalize l[j] = p at hcell hdr o1 o2 o3 etk eenc hel
  unfold numsOk rightN at o3
  simp only [Bool.and_eq_true, decide_eq_true_eq] at o3
  obtain ⟨⟨⟨v0, v1⟩, c0, c1⟩, w0, w1⟩ := o3
  refine lfpD.intro ?_
  unfold l4_ref07_Tree_Encode
  simp only
  refine ⟨_, rfl, s0, hT, ?_⟩
  rw [if_pos (by omega)]
  refine ⟨_, rfl, s0, hT, _, ha, by omega, by omega, S p.1, d, p.2.ver, p.2.ctr, p.2.own, cellsAt_of 0 fun i v hv => by
   rw [Int.toNat_natCast, add_add, add_add, Nat.zero_add, Nat.zero_add]; exact hcell i v hv, ?_⟩
  refine nw_st (tag := tag3) 0 hs3 rfl (by simp [storable, Sl.v]) fun X tag4 σ4 st4 r4 => ?_
  have hs4 := (st4 []).sep
  have r34 := r3.keep (st4 [])
  have d4 := hdr.step (st4 [])
  obtain ⟨tX, oX, hX⟩ := r4.tagOf
  refine lent_block X ?_
  have hsA : SL.Sep (join ro (SL.one σ4 X)) (SL.del σ4 X) := hs4.lent
  have cX : ∀ τ i v, (nodeV p d)[i]? = some v → acell (join ro (SL.one σ4 X)) τ ((⟨X, 0, none⟩ : Addr).add i) = some v := fun τ i v hv => by
   have := r4.lend hs4 (τ := τ) hv
   rwa [Nat.mul_one] at this
  have rA := r34.del tX (by decide)
  have dA := d4.lent X
  refine ⟨d, cX _ 1 _ rfl, p.2.ver, cX _ 2 _ rfl, p.2.ctr, cX _ 3 _ rfl, p.2.own, cX _ 4 _ rfl, S p.1, cX _ 0 _ rfl, ?_⟩
  refine awp_s2b (tag := tag4) hsA fun sp tag5 σ5 st5 h5 => ?_
  refine ⟨sp, rfl, ?_⟩
  refine rblobp_ok (tag := tag5) h5 (by omega) fun q1 tag6 σ6 st6 k1 => ?_
  refine rblobp_ok (tag := tag6) ((dA.step (st5 [])).step (st6 [])) (by omega) fun q2 tag7 σ7 st7 k2 => ?_
  refine rput_ok (tag := tag7) v0 v1 fun q3 tag8 σ8 st8 k3 => ?_
  refine rput_ok (tag := tag8) c0 c1 fun q4 tag9 σ9 st9 k4 => ?_
  refine rput_ok (tag := tag9) w0 w1 fun q5 tag10 σ10 st10 k5 => ?_
  refine nw_cells (tag := tag10) 0 (st10 []).sep fun Y tag11 σ11 st11 r11 => ?_
  have hs11 := (st11 []).sep
  have stq : ∀ R, Step R (join ro (SL.one σ4 X)) tag4 (SL.del σ4 X) tag11 σ11 := fun R => (st5 R).trans ((st6 R).trans ((st7 R).trans ((st8 R).trans ((st9 R).trans ((st10 R).trans (st11 R))))))
  have a1 := (((((k1.keep (st7 [])).keep (st8 [])).keep (st9 [])).keep (st10 [])).keep (st11 [])).read hs11
  have a2 := ((((k2.keep (st8 [])).keep (st9 [])).keep (st10 [])).keep (st11 [])).read hs11
  have a3 := (((k3.keep (st9 [])).keep (st10 [])).keep (st11 [])).read hs11
  have a4 := ((k4.keep (st10 [])).keep (st11 [])).read hs11
  have a5 := (k5.keep (st11 [])).read hs11
  have a0 := (rA.keep (stq [])).read hs11
  have efl : [encL (l.take j), blob p.1, blob p.2.data, vput p.2.ver.toNat, vput p.2.ctr.toNat, vput p.2.own.toNat].flatten = encL (l.take (j + 1)) := by
   rw [eenc]; unfold encN; simp
  refine rjoin_ok (tag := tag11) (ss := [s, q1, q2, q3, q4, q5]) (ls := [encL (l.take j), blob p.1, blob p.2.data, vput p.2.ver.toNat, vput p.2.ctr.toNat, vput p.2.own.toNat]) (r11.read hs11) rfl (fun i s l hs' hl' => ?_) (by rw [efl, eenc, List.length_append]; omega) (by simp) fun s' tag12 σ12 st12 r12 => ?_
  ·rcases i with _ | _ | _ | _ | _ | _ | i
   ·cases hs'; cases hl'; exact a0
   ·cases hs'; cases hl'; exact a1
   ·cases hs'; cases hl'; exact a2
   ·cases hs'; cases hl'; exact a3
   ·cases hs'; cases hl'; exact a4
   ·cases hs'; cases hl'; exact a5
   ·cases hs'
  intro hdis
  have stB := ((stq []).trans (st12 [])).back hs4 hdis ⟨_, hX⟩
  have r13 := r12.back (r' := tag4 X) hdis ⟨_, hX⟩
  rw [Pa.inc j (by omega)]
  rw [efl] at r13
  exact ih (j + 1) s' _ _ (by omega) (st3.trans (((st4 []).s (by simp)).trans (stB.s (by simp)))) r13
theorem RowW.del {r r' : Nat} {e : TypeId} {w : Nat} {s : Sl} {l : List (List Value)} {b : Nat} (h : RowW tag σ r e w s l) (hb : tag b = r') (hr : r ≠ r') : RowW tag (SL.del σ b) r e w s l := by
 rcases h with h | ⟨c, cs, ha, ht, hs, hx⟩
 ·exact .inl h
 ·refine .inr ⟨c, cs, ha, ht, ?_, hx⟩
  have : c ≠ b := fun e => hr (by rw [← ht, e, hb])
  unfold SL.del; rw [if_neg this]; exact hs
theorem isOwned_srt {st : St} (hk : (st.map (·.1)).Nodup) (ws : List Int) (k : Str) : isOwned (srt st) ws k = isOwned st ws k := by
 unfold isOwned; rw [lookup_perm (srt_perm st).symm hk]
abbrev vB (x : Int) : Value := .int .u8 x
end Zt
namespace SL
open Go
variable {ro σ σ' : AH} {tag tag' : Nat → Nat}
theorem addr_add (a : Addr) (p i : Nat) : (a.add p).add i = a.add (p + i) := by
 unfold Addr.add
 by_cases hp : p = 0
 ·subst hp; simp
 ·by_cases hi : i = 0
  ·subst hi; simp [hp]
  ·simp [hp, hi, Nat.add_assoc]
end SL
namespace Zt
open Go SL G Pa Wi
variable {B : World} {ro σ σ' : AH} {tag tag' : Nat → Nat}
def nk (p : Str × Nd) : Str × Nd := (p.1, { p.2 with kids := 0 })
theorem zip_nk (l : St) (ds : List Sl) : List.zipWith nodeV (l.map nk) ds = List.zipWith nodeV l ds := by
 induction l generalizing ds with
 | nil => rfl
 | cons p l ih =>
  cases ds with
  | nil => rfl
  | cons d ds => simp only [List.map_cons, List.zipWith_cons_cons, ih]; rfl
theorem RefIs.nk {r T : Nat} {l l' : St} (h : RefIs tag σ r T l) (e : l.map nk = l'.map nk) : RefIs tag σ r T l' := by
 obtain ⟨s, ds, h1, h2, h3, h4⟩ := h
 have hl := congrArg List.length e
 simp only [List.length_map] at hl
 refine ⟨s, ds, by rw [h1, hl], h2, by rw [← zip_nk, ← e, zip_nk]; exact h3, fun i p d hp hd => ?_⟩
 have h5 : (l.map Zt.nk)[i]? = some (Zt.nk p) := by rw [e, List.getElem?_map, hp]; rfl
 rw [List.getElem?_map] at h5
 obtain ⟨p', hp', ep⟩ := Option.map_eq_some_iff.1 h5
 have := h4 i p' d hp' hd
 rw [show p.2.data = p'.2.data from (congrArg (fun x => x.2.data) ep).symm]
 exact this
theorem modN_nk {a : St} {u : Str} {f g : Nd → Nd} (h : ∀ n, { f n with kids := 0 } = { g n with kids := 0 }) : (modN a u f).map nk = (modN a u g).map nk := by
 unfold modN
 rw [List.map_map, List.map_map]
 refine List.map_congr_left fun p _ => ?_
 simp only [Function.comp]
 split
 ·unfold nk; simp only; rw [h]
 ·rfl
theorem modN_nk0 {a : St} {u : Str} {f : Nd → Nd} (h : ∀ n, { f n with kids := 0 } = { n with kids := 0 }) : (modN a u f).map nk = a.map nk := by
 unfold modN
 rw [List.map_map]
 refine List.map_congr_left fun p _ => ?_
 simp only [Function.comp]
 split
 ·unfold nk; simp only; rw [h]
 ·rfl
def ins (x : Str × Nd) : St → St
 | [] => [x]
 | p :: r => if x.1 < p.1 then x :: p :: r else p :: ins x r
theorem ins_perm (x : Str × Nd) : ∀ l : St, (ins x l).Perm (l ++ [x]) := by
 intro l
 induction l with
 | nil => exact List.Perm.refl _
 | cons p r ih =>
  unfold ins
  split
  ·exact (List.perm_append_comm (l₁ := [x]) (l₂ := p :: r))
  ·exact List.Perm.cons p ih
theorem ins_srt {x : Str × Nd} : ∀ {l : St}, Srt l → (∀ p ∈ l, p.1 ≠ x.1) → Srt (ins x l) := by
 intro l
 induction l with
 | nil => intro _ _; simp [ins, Srt]
 | cons p r ih =>
  intro h hn
  obtain ⟨h1, h2⟩ := List.pairwise_cons.1 h
  unfold ins
  split
  ·rename_i c
   refine List.pairwise_cons.2 ⟨fun q hq => ?_, h⟩
   rcases List.mem_cons.1 hq with e | hq
   ·rw [e]; exact c
   ·exact slt_trans c (h1 q hq)
  ·rename_i c
   refine List.pairwise_cons.2 ⟨fun q hq => ?_, ih h2 fun q hq => hn q (by simp [hq])⟩
   have hq := (ins_perm x r).mem_iff.1 hq
   rcases List.mem_append.1 hq with hq | hq
   ·exact h1 q hq
   ·rw [List.mem_singleton.1 hq]
    refine slt_of_le_ne (Classical.byContradiction fun h => c (snot_le.1 h)) (hn p (by simp))
theorem srt_ins {st : St} {x : Str × Nd} (hk : (st.map (·.1)).Nodup) (hx : st.lookup x.1 = none) : srt (st ++ [x]) = ins x (srt st) := by
 refine (srt_of (ins_srt (srt_srt hk) fun p hp e => ?_) ?_).symm
 ·have := (srt_perm st).mem_iff.1 hp
  exact lookup_none hx (by rw [← e]; exact List.mem_map.2 ⟨p, this, rfl⟩)
 ·exact (ins_perm x _).trans ((srt_perm st).append_right [x])
theorem srt_keysS {l : St} : Srt l ↔ (l.map (·.1)).Pairwise (· < ·) := by unfold Srt; rw [List.pairwise_map]
theorem srt_mod {st : St} {u : Str} {f : Nd → Nd} (hk : (st.map (·.1)).Nodup) : srt (modN st u f) = modN (srt st) u f := by
 refine (srt_of ?_ (modN_perm (srt_perm st) u f)).symm
 rw [srt_keysS, keys_mod, ← srt_keysS]
 exact srt_srt hk
theorem srt_del {st : St} {q : Str} (hk : (st.map (·.1)).Nodup) : srt (delK st q) = delK (srt st) q := by
 have hk' : ((srt st).map (·.1)).Nodup := (srt_srt hk).nodup
 rw [delK_filter hk, delK_filter hk']
 refine (srt_of ?_ ((srt_perm st).filter _)).symm
 exact List.Pairwise.sublist List.filter_sublist (srt_srt hk)
theorem lookup_srt {st : St} (hk : (st.map (·.1)).Nodup) (k : Str) : (srt st).lookup k = st.lookup k := (lookup_perm (srt_perm st).symm hk k).symm
theorem app7_ok {r : Nat} {s : Sl} {L : List (List Value)} {x : List Value} {cs : Array Value} {K : Sl → AH → Prop} (h : RowW tag σ r 159 5 s L) (hs : SL.Sep ro σ) (hx : x.length = 5) (hcs : cs.toList = x) (hv : ∀ v ∈ x, storable v = true) (hl : L.length ≤ 4294967296)
  (hK : ∀ s' tag' σ', Step [r] ro tag σ tag' σ' → RowW tag' σ' r 159 5 s' (L ++ [x]) → K s' σ') :
  nw ro σ (.cells cs 159) fun X σ => awp prog ro (Builtin.append_ #[155, 155] 155 #[Sl.v s, Sl.v (⟨some ⟨X, 0, none⟩, 1, 1⟩ : Sl)]) (fun v σ => ∃ s' : Sl, v = Sl.v s' ∧ K s' σ) σ := by
 refine nw_cells (tag := tag) 0 hs fun X tag1 σ1 st1 r1 => ?_
 rw [hcs] at r1
 refine awp_appendW (l2 := [x]) (RowW.keep h (st1 [])) (st1 []).sep (Row.readW1 r1 (st1 []).sep hx (by decide)) (t := 155) (by kernel_rfl) ty159 rfl (by simpa using hv) (by simp; omega) (by decide) fun s' tag2 σ2 st2 r2 => ?_
 exact ⟨s', rfl, hK s' tag2 σ2 ((st1 [r]).trans (st2 [r] (.inr (by simp)))) r2⟩
end Zt
namespace Pa
open Go SL G
theorem tens_cons : ∀ (k n : Nat), tens (k + 1) n = UInt8.ofNat (48 + n / 10 ^ k % 10) :: tens k n := by
 intro k
 induction k with
 | zero => intro n; simp [tens]
 | succ k ih =>
  intro n
  have e : tens (k + 1) n = tens k (n / 10) ++ [UInt8.ofNat (48 + n % 10)] := rfl
  rw [e, tens, ih, List.cons_append, Nat.div_div_eq_div_mul, Nat.pow_succ, Nat.mul_comm 10]
end Pa
namespace Zt
open Go SL G Pa Wi
variable {B : World} {ro σ σ' : AH} {tag tag' : Nat → Nat}
theorem digits_ok {n : Nat} {Q : ByteArray → AH → Prop} (hn : n < 10000000000) (hQ : ∀ tag' σ', (∀ R, Step R ro tag σ tag' σ') → Q (S (digits (n : Int))) σ') : c_ref02_Digits B ro (n : Int) σ Q := by
 refine ref02_Digits_ok fun hs => ?_
 unfold f_ref02_Digits
 suffices ∀ d i tag1 σ1, i + d = 10 → (∀ R, Step R ro tag σ tag1 σ1) → lfpD (l3_ref02_Digits B ro Q) (((n / 10 ^ i : Nat) : Int), S (tens i n), (i : Int)) σ1 from by
  have := this 10 0 tag σ rfl (fun R => Step.refl hs)
  rw [Nat.pow_zero, Nat.div_one] at this
  exact this
 intro d
 induction d with
 | zero =>
  intro i tag1 σ1 hi st1
  obtain rfl : i = 10 := by omega
  refine lfpD.intro ?_
  unfold l3_ref02_Digits
  simp only
  rw [if_neg (by decide)]
  unfold j1_ref02_Digits
  have := hQ tag1 σ1 st1
  unfold digits at this
  rwa [Int.toNat_natCast] at this
 | succ d ih =>
  intro i tag1 σ1 hi st1
  obtain ⟨m, hm⟩ : ∃ m, n / 10 ^ i = m := ⟨_, rfl⟩
  have hmn : m ≤ n := by rw [← hm]; exact Nat.div_le_self _ _
  have hmod : m % 10 < 10 := Nat.mod_lt _ (by omega)
  rw [hm]
  refine lfpD.intro ?_
  unfold l3_ref02_Digits
  simp only
  rw [if_pos (by omega)]
  refine nw_cells (tag := tag1) 0 (st1 []).sep fun X tag2 σ2 st2 r2 => ?_
  have e1 : IntKind.u8.wrap (i64.wrap (48 + Int.tmod (m : Int) 10)) = ((UInt8.ofNat (48 + m % 10)).toNat : Int) := by
   rw [Int.tmod_eq_emod_of_nonneg (by omega), SL.w64_eq (by omega) (by omega), UInt8.toNat_ofNat_of_lt' (by show _ < 256; omega)]
   rw [show (48 + (m : Int) % 10) = ((48 + m % 10 : Nat) : Int) by omega]
   show IntKind.u8.wrap ((48 + m % 10 : Nat) : Int) = _
   unfold IntKind.wrap
   simp [IntKind.bits, IntKind.signed]
   omega
  rw [e1] at r2
  refine awp_b2s (l := [UInt8.ofNat (48 + m % 10)]) (r2.read (st2 []).sep) ?_
  refine ⟨_, rfl, ?_⟩
  have hlen : (tens i n).length = i := tens_len i n
  refine ⟨by rw [S_size, S_size, hlen]; simp; omega, ?_⟩
  rw [S_append, Pa.inc i (by omega)]
  have e2 : i64.wrap (Int.tdiv (m : Int) 10) = ((n / 10 ^ (i + 1) : Nat) : Int) := by
   rw [Int.tdiv_eq_ediv_of_nonneg (by omega), SL.w64_eq (by omega) (by omega), Nat.pow_succ, ← Nat.div_div_eq_div_mul, hm]
   omega
  have e3 : [UInt8.ofNat (48 + m % 10)] ++ tens i n = tens (i + 1) n := by rw [tens_cons, hm]; rfl
  rw [e2, e3]
  exact ih (i + 1) tag2 σ2 (by omega) fun R => (st1 R).trans (st2 R)
theorem rsuffix_ok {p : Str} {n : Int} {Q : ByteArray → Bool → AH → Prop} (hs : SL.Sep ro σ) (hnone : suffix p n = none → ∀ tag' σ', Step [] ro tag σ tag' σ' → Q (⟨#[]⟩ : ByteArray) false σ')
  (hsome : ∀ q, suffix p n = some q → ∀ tag' σ', Step [] ro tag σ tag' σ' → Q (S q) true σ') : c_ref02_Suffix B ro (S p) n σ Q := by
 refine ref02_Suffix_ok fun _ => ?_
 unfold f_ref02_Suffix
 refine rparts2_ok (tag := tag) 22 hs (fun hp sl tag1 σ1 st1 => ?_) fun ps hp sl tag1 σ1 st1 r1 => ?_
 ·rw [if_pos (by simp)]
  rw [L_S] at hp
  exact hnone (by unfold suffix; rw [hp]) tag1 σ1 st1
 rw [L_S] at hp
 have hln := r1.len
 rw [List.length_map] at hln
 by_cases c : ps = [] ∨ n < 0 ∨ 9999999999 < n
 ·rw [if_pos (by
   rcases c with c | c | c
   ·exact .inl (.inl (.inr (by rw [hln, c]; rfl)))
   ·exact .inl (.inr c)
   ·exact .inr c)]
  exact hnone (by unfold suffix; rw [hp]; simp only; rw [if_pos c]) tag1 σ1 st1
 rw [if_neg (by
  rintro (((h | h) | h) | h)
  ·exact h rfl
  ·exact c (.inl (List.eq_nil_of_length_eq_zero (by omega)))
  ·exact c (.inr (.inl h))
  ·exact c (.inr (.inr h)))]
 obtain ⟨m, rfl⟩ : ∃ m : Nat, n = m := ⟨n.toNat, by omega⟩
 obtain ⟨hl, hg⟩ := parts_iff.1 hp
 have h128 := hg.len
 rw [← hl] at h128
 have hdl : (digits (m : Int)).length = 10 := tens_len 10 _
 have hsuf : suffix p (m : Int) = if (parts (p ++ digits m)).isSome then some (p ++ digits m) else none := by
  unfold suffix; rw [hp]; simp only; rw [if_neg c]
 refine digits_ok (tag := tag1) (by omega) fun tag2 σ2 st2 => ?_
 refine ⟨by rw [S_size, S_size, hdl]; omega, ?_⟩
 rw [S_append]
 refine rparts2_ok (tag := tag2) 22 (st2 []).sep (fun hq sl2 tag3 σ3 st3 => ?_) fun qs hq sl2 tag3 σ3 st3 _ => ?_
 ·rw [if_pos (by simp)]
  rw [L_S] at hq
  exact hnone (by rw [hsuf, hq]; rfl) tag3 σ3 (st1.trans ((st2 []).trans st3))
 ·rw [if_neg (by simp)]
  rw [L_S] at hq
  exact hsome _ (by rw [hsuf, hq]; rfl) tag3 σ3 (st1.trans ((st2 []).trans st3))
theorem rbad_ok {n : Int} {Q : Bool → AH → Prop} (hQ : Q ((decide (n < 0)) || (decide (4611686018427387903 < n))) σ) : c_ref01_Bad B ro n σ Q := by
 refine ref01_Bad_ok fun _ => ?_
 unfold f_ref01_Bad
 exact hQ
theorem rnode_ok {T : Nat} {l : St} {p : Str} {v : Int} {Q : Int → Int → AH → Prop} (h : RefM ro σ T l) (hl : l.length ≤ 4294967296) (hmiss : l.lookup p = none → Q 0 70 σ)
  (hver : ∀ n, l.lookup p = some n → v ≠ -1 → v ≠ n.ver → Q 0 72 σ) (hhit : ∀ (j : Nat) n, l[j]? = some (p, n) → l.lookup p = some n → (v = -1 ∨ v = n.ver) → Q (j : Int) 0 σ) : c_ref07_Tree_node B ro (some ⟨T, 0, none⟩) (S p) v σ Q := by
 refine ref07_Tree_node_ok fun _ => ?_
 unfold f_ref07_Tree_node
 refine find7_ok h hl ?_
 rcases fnd_spec (l := l) (k := p) 0 with ⟨e1, e2⟩ | ⟨j, n, e1, e2, e3⟩
 ·rw [e2, if_pos (by decide)]
  exact hmiss e1
 ·rw [e3, if_neg (by omega), Nat.zero_add]
  by_cases c : v = -1
  ·rw [if_neg (by simpa using c)]
   unfold j2_ref07_Tree_node
   rw [if_neg (by simp)]
   exact hhit j n e1 e2 (.inl c)
  ·rw [if_pos c]
   obtain ⟨s, b, d, q1, q2, q3, q4⟩ := h.row e1
   have hjl : j < l.length := by
    rcases Nat.lt_or_ge j l.length with h | h
    ·exact h
    ·rw [List.getElem?_eq_none h] at e1; cases e1
   refine ⟨_, rfl, s, q1, _, q3, by omega, by omega, n.ver, q4 2 _ rfl, ?_⟩
   unfold j2_ref07_Tree_node
   by_cases c2 : v = n.ver
   ·rw [if_neg (by simp [c2])]
    exact hhit j n e1 e2 (.inr c2)
   ·rw [if_pos (by simp [c2])]
    exact hver n e2 c c2
def rcr (l : St) (p : Str) (data : Str) (o : Int) (seq : Bool) : St × Str × Int :=
 match parent p with
 | none => (l, [], 20)
 | some u =>
  if 256 < data.length then (l, [], 75)
  else if o < 0 ∨ 4611686018427387903 < o then (l, [], 10)
  else match l.lookup u with
   | none => (l, [], 70)
   | some n =>
    if n.own ≠ 0 then (l, [], 74)
    else if 9999999999 < n.ctr then (l, [], 76)
    else match (if seq then suffix p n.ctr else some p) with
     | none => (l, [], 20)
     | some q => if (l.lookup q).isSome then (l, [], 71) else (ins (q, ⟨0, 0, o, 0, data⟩) (modN l u bump), q, 0)
theorem modN_ins {x : Str × Nd} {u : Str} {f : Nd → Nd} (h : x.1 ≠ u) : ∀ l : St, modN (ins x l) u f = ins x (modN l u f) := by
 intro l
 induction l with
 | nil => unfold modN ins; simp [h]
 | cons p l ih =>
  have e : ∀ (y : Str × Nd) (m : St), modN (y :: m) u f = (if y.1 = u then (y.1, f y.2) else y) :: modN m u f := fun _ _ => rfl
  have k : (if p.1 = u then (p.1, f p.2) else p).1 = p.1 := by split <;> rfl
  unfold ins
  rw [e]
  simp only [k]
  by_cases c : x.1 < p.1
  ·rw [if_pos c, if_pos c, e, if_neg h, e]
  ·rw [if_neg c, if_neg c, e, ih]
theorem rcr_srt {st : St} (hk : (st.map (·.1)).Nodup) (p d : Str) (o : Int) (seq : Bool) : rcr (srt st) p d o seq = (srt (create st p d o seq).1, (create st p d o seq).2) := by
 unfold rcr create
 cases parent p with
 | none => rfl
 | some u =>
  simp only
  rw [lookup_srt hk]
  split
  ·rfl
  split
  ·rfl
  cases hu : st.lookup u with
  | none => rfl
  | some n =>
   simp only
   split
   ·rfl
   split
   ·rfl
   cases (if seq = true then suffix p n.ctr else some p) with
   | none => rfl
   | some q =>
    simp only
    rw [lookup_srt hk]
    split
    ·rfl
    ·rename_i hq
     have hq' : st.lookup q = none := by
      cases e : st.lookup q with
      | none => rfl
      | some m => rw [e] at hq; exact absurd rfl hq
     have hqu : q ≠ u := fun e => by rw [e, hu] at hq'; cases hq'
     have hk2 : ((st ++ [(q, (⟨0, 0, o, 0, d⟩ : Nd))]).map (·.1)).Nodup := by
      rw [List.map_append, List.nodup_append]
      refine ⟨hk, by simp, ?_⟩
      intro x hx y hy e
      simp at hy
      exact lookup_none hq' (by rw [← hy, ← e]; exact hx)
     simp only [Prod.mk.injEq, and_true]
     rw [srt_mod hk2, srt_ins hk hq', modN_ins hqu]
def OutAt (tag : Nat → Nat) (σ : AH) (s : Sl) (L : St) : Prop := ∃ ds : List Sl, ds.length = L.length ∧ RowW tag σ 139 159 5 s (List.zipWith nodeV L ds) ∧ ∀ (i : Nat) (p : Str × Nd) (d : Sl), L[i]? = some p → ds[i]? = some d → Row tag σ 6 5 d (p.2.data.map vU)
theorem OutAt.nil : OutAt tag σ ⟨none, 0, 0⟩ [] := ⟨[], rfl, RowW.nil _ _ _, fun i p d h => by cases h⟩
theorem OutAt.keep {R : List Nat} {s : Sl} {L : St} (h : OutAt tag σ s L) (k : Step R ro tag σ tag' σ') (h1 : 139 ∉ R := by simp) (h6 : 6 ∉ R := by simp) : OutAt tag' σ' s L := by
 obtain ⟨ds, a, b, c⟩ := h
 exact ⟨ds, a, RowW.keep b k h1, fun i p d hp hd => (c i p d hp hd).keep k h6⟩
theorem RefIs.keep {R : List Nat} {r T : Nat} {l : St} (h : RefIs tag σ r T l) (k : Step R ro tag σ tag' σ') (h1 : r ∉ R := by simp) (h2 : r + 64 ∉ R := by simp) (h6 : 6 ∉ R := by simp) : RefIs tag' σ' r T l := by
 obtain ⟨s, ds, g1, g2, g3, g4⟩ := h
 exact ⟨s, ds, g1, g2.keep k h1, RowW.keep g3 k h2, fun i p d hp hd => (g4 i p d hp hd).keep k h6⟩
theorem rows_app {L M : St} {ds es : List Sl} (hl : ds.length = L.length) (h1 : ∀ (i : Nat) (p : Str × Nd) (d : Sl), L[i]? = some p → ds[i]? = some d → Row tag σ 6 5 d (p.2.data.map vU)) (h2 : ∀ (i : Nat) (p : Str × Nd) (d : Sl), M[i]? = some p → es[i]? = some d → Row tag σ 6 5 d (p.2.data.map vU)) :
  ∀ (i : Nat) (p : Str × Nd) (d : Sl), (L ++ M)[i]? = some p → (ds ++ es)[i]? = some d → Row tag σ 6 5 d (p.2.data.map vU) := fun i p d hp hd => by
 rcases Nat.lt_or_ge i L.length with hi | hi
 ·rw [List.getElem?_append_left hi] at hp
  rw [List.getElem?_append_left (by omega)] at hd
  exact h1 i p d hp hd
 ·rw [List.getElem?_append_right hi] at hp
  rw [List.getElem?_append_right (by omega), hl] at hd
  exact h2 _ p d hp hd
theorem out_app {s d : Sl} {L : St} {p : Str × Nd} {cs : Array Value} {K : Sl → AH → Prop} (h : OutAt tag σ s L) (hs : SL.Sep ro σ) (hd : Row tag σ 6 5 d (p.2.data.map vU)) (hcs : cs.toList = nodeV p d) (hl : L.length ≤ 4294967296)
  (hK : ∀ s' tag' σ', Step [139] ro tag σ tag' σ' → OutAt tag' σ' s' (L ++ [p]) → K s' σ') :
  nw ro σ (.cells cs 159) fun X σ => awp prog ro (Builtin.append_ #[155, 155] 155 #[Sl.v s, Sl.v (⟨some ⟨X, 0, none⟩, 1, 1⟩ : Sl)]) (fun v σ => ∃ s' : Sl, v = Sl.v s' ∧ K s' σ) σ := by
 obtain ⟨ds, a, b, c⟩ := h
 refine app7_ok b hs rfl hcs (by simp [nodeV, storable, Sl.v]) (by rw [List.length_zipWith, a, Nat.min_self]; exact hl) fun s' tag1 σ1 st1 r1 => ?_
 refine hK s' tag1 σ1 st1 ⟨ds ++ [d], by simp [a], by rw [List.zipWith_append a.symm]; exact r1, rows_app a (fun i p d hp hd => (c i p d hp hd).keep st1 (by decide)) fun i p' d' hp hd' => ?_⟩
 cases i with
 | zero => cases hp; cases hd'; exact hd.keep st1 (by decide)
 | succ k => cases hp
def tag0 (tag : Nat → Nat) : Nat → Nat := fun c => if tag c = 139 then 203 else tag c
theorem RefIs.tag0 {T : Nat} {l : St} (h : RefIs tag σ 11 T l) : RefIs (Zt.tag0 tag) σ 11 T l := by
 have k : ∀ c q, q ≠ 139 → tag c = q → Zt.tag0 tag c = q := fun c q h1 h2 => by unfold Zt.tag0; rw [if_neg (by omega)]; exact h2
 obtain ⟨s, ds, g1, g2, g3, g4⟩ := h
 exact ⟨s, ds, g1, Row.retag g2 fun c hc _ => k c _ (by decide) hc, RowW.retag g3 fun c hc _ => k c _ (by decide) hc, fun i p d hp hd => Row.retag (g4 i p d hp hd) fun c hc _ => k c _ (by decide) hc⟩
theorem ref_swap {C : List Nat} {T : Nat} {s : Sl} {l : St} {tagE : Nat → Nat} {σE : AH} (hC : 11 ∈ C) (hT : ∃ o, σ T = some o) (st : StepS C ro (tag0 tag) σ tagE σE) (h2 : Row tagE σE 11 157 ⟨some ⟨T, 0, none⟩, 1, 1⟩ [Sl.v s]) (h3 : OutAt tagE σE s l) :
  ∃ tagF, StepS C ro tag σ tagF σE ∧ RefIs tagF σE 11 T l := by
 obtain ⟨R, hR, st⟩ := st
 obtain ⟨ds, a, b, c⟩ := h3
 have old : ∀ x, σ x ≠ none → tagE x = tag0 tag x := fun x hx => by
  cases h : σ x with
  | none => exact absurd h hx
  | some o => exact (st.old x o h).1
 let tagF : Nat → Nat := fun x => if σ x ≠ none then tag x else if tagE x = 139 then 75 else tagE x
 have hF : ∀ x, tagE x ≠ 139 → tagE x ≠ 203 → tagF x = tagE x := fun x h1 h2 => by
  simp only [tagF]
  by_cases hx : σ x ≠ none
  ·rw [if_pos hx]
   have := old x hx
   unfold tag0 at this
   by_cases ht : tag x = 139
   ·rw [if_pos ht] at this; exact absurd this h2
   ·rw [if_neg ht] at this; exact this.symm
  ·rw [if_neg hx, if_neg h1]
 have hF2 : ∀ x, tagE x = 139 → tagF x = 75 := fun x h1 => by
  simp only [tagF]
  by_cases hx : σ x ≠ none
  ·have := old x hx
   unfold tag0 at this
   rw [h1] at this
   by_cases ht : tag x = 139
   ·rw [if_pos ht] at this; cases this
   ·rw [if_neg ht] at this; exact absurd this.symm ht
  ·rw [if_neg hx, if_pos h1]
 refine ⟨tagF, ⟨139 :: R, fun x hx => ?_, fun x o hx hn => ?_, fun x o hx => ?_, st.sep⟩, s, ds, a, ?_, ?_, fun i p d hp hd => ?_⟩
 ·rcases List.mem_cons.1 hx with rfl | hx
  ·exact hC
  ·exact hR x hx
 ·have hx' : σ x ≠ none := by rw [hx]; simp
  simp only [List.mem_cons, not_or] at hn
  have e : tag0 tag x = tag x := by unfold tag0; rw [if_neg hn.1]
  exact ⟨by simp only [tagF]; rw [if_pos hx'], (st.keep x o hx (by rw [e]; exact hn.2)).2⟩
 ·have hx' : σ x ≠ none := by rw [hx]; simp
  exact ⟨by simp only [tagF]; rw [if_pos hx'], (st.old x o hx).2⟩
 ·exact Row.retag h2 fun x hx _ => by rw [hF x (by omega) (by omega), hx]
 ·rcases b with b | ⟨y, cs, ha, ht, hx⟩
  ·exact .inl b
  ·exact .inr ⟨y, cs, ha, hF2 y ht, hx⟩
 ·exact Row.retag (c i p d hp hd) fun x hx _ => by rw [hF x (by omega) (by omega), hx]
theorem RefIs.row {r T j : Nat} {l : St} {p : Str × Nd} (h : RefIs tag σ r T l) (hs : SL.Sep ro σ) (hj : l[j]? = some p) : ∃ (s : Sl) (b : Nat) (d : Sl), acell ro σ ⟨T, 0, none⟩ = some (Sl.v s) ∧ s.len = l.length ∧ s.a = some ⟨b, 0, none⟩ ∧
  (∀ i v, (nodeV p d)[i]? = some v → acell ro σ (((⟨b, 0, none⟩ : Addr).add (Int.toNat (j : Int) * 5)).add i) = some v) ∧ Row tag σ 6 5 d (p.2.data.map vU) := by
 obtain ⟨s, ds, g1, g2, g3, g4⟩ := h
 have hjl : j < l.length := by
  rcases Nat.lt_or_ge j l.length with h | h
  ·exact h
  ·rw [List.getElem?_eq_none h] at hj; cases hj
 have hd : ds[j]? = some ds[j] := List.getElem?_eq_getElem (by omega)
 obtain ⟨b, ha, _, hcell⟩ := RowW.get g3 hs (j := j) (x := nodeV p ds[j]) (by rw [List.getElem?_zipWith, hj, hd])
 have hln := g3.len
 rw [List.length_zipWith, g1, Nat.min_self] at hln
 exact ⟨s, b, ds[j], Row.cell1 g2 hs, hln, ha, fun i v hv => by rw [Int.toNat_natCast, add_add, add_add, Nat.zero_add]; exact hcell i v hv, g4 j p _ hj hd⟩
theorem RefIs.stn {r T j i : Nat} {l : St} {k : Str} {n n' : Nd} {v : Value} {K : AH → Prop} (h : RefIs tag σ r T l) (hs : SL.Sep ro σ) (hj : l[j]? = some (k, n)) (hi : i < 5) (hset : ∀ d, (nodeV (k, n) d).set i v = nodeV (k, n') d) (hdt : n'.data = n.data) (hv : storable v = true)
  (hK : ∀ σ', Step [r + 64] ro tag σ tag σ' → RefIs tag σ' r T (l.set j (k, n')) → K σ') : ∃ (s : Sl) (b : Nat) (d : Sl), acell ro σ ⟨T, 0, none⟩ = some (Sl.v s) ∧ s.a = some ⟨b, 0, none⟩ ∧ s.len = l.length ∧ (∀ i v, (nodeV (k, n) d)[i]? = some v → acell ro σ (((⟨b, 0, none⟩ : Addr).add (Int.toNat (j : Int) * 5)).add i) = some v) ∧ stN (((⟨b, 0, none⟩ : Addr).add (Int.toNat (j : Int) * 5)).add i) K [v] 0 σ := by
 obtain ⟨s, ds, g1, g2, g3, g4⟩ := h
 have hjl : j < l.length := by
  rcases Nat.lt_or_ge j l.length with h | h
  ·exact h
  ·rw [List.getElem?_eq_none h] at hj; cases hj
 have hd : ds[j]? = some ds[j] := List.getElem?_eq_getElem (by omega)
 have hz : (List.zipWith nodeV l ds)[j]? = some (nodeV (k, n) ds[j]) := by rw [List.getElem?_zipWith, hj, hd]
 obtain ⟨b, ha, _, hcell⟩ := RowW.get g3 hs hz
 have hln := g3.len
 rw [List.length_zipWith, g1, Nat.min_self] at hln
 refine ⟨s, b, ds[j], Row.cell1 g2 hs, ha, hln, fun i v hv => by rw [Int.toNat_natCast, add_add, add_add, Nat.zero_add]; exact hcell i v hv, ?_⟩
 rw [Int.toNat_natCast, add_add, add_add, Nat.zero_add]
 refine RowW.st g3 hs ha hz hi hv fun σ1 st1 r1 => hK σ1 st1 ⟨s, ds, by rw [List.length_set, g1], g2.keep st1, ?_, fun i' p d hp hd' => ?_⟩
 ·rw [hset] at r1
  have e : (List.zipWith nodeV l ds).set j (nodeV (k, n') ds[j]) = List.zipWith nodeV (l.set j (k, n')) ds := by
   apply List.ext_getElem?
   intro m
   rw [List.getElem?_zipWith, List.getElem?_set, List.getElem?_set, List.getElem?_zipWith, List.length_zipWith]
   by_cases c : j = m
   ·subst c; rw [if_pos rfl, if_pos rfl, if_pos (show j < min l.length ds.length by omega), if_pos hjl, hd]
   ·rw [if_neg c, if_neg c]
  rw [← e]; exact r1
 ·rw [List.getElem?_set] at hp
  by_cases c : j = i'
  ·subst c
   rw [if_pos rfl, if_pos hjl] at hp
   cases hp
   have := g4 j _ d hj hd'
   simp only at this ⊢
   rw [hdt]
   exact this.keep st1
  ·rw [if_neg c] at hp
   exact (g4 i' p d hp hd').keep st1
theorem ins_cons (x p : Str × Nd) (r : St) : ins x (p :: r) = if x.1 < p.1 then x :: p :: r else p :: ins x r := rfl
theorem ins_nk (x : Str × Nd) : ∀ l : St, (ins x l).map nk = ins (nk x) (l.map nk) := by
 intro l
 induction l with
 | nil => rfl
 | cons p l ih =>
  rw [List.map_cons]
  unfold ins
  by_cases c : x.1 < p.1
  ·rw [if_pos c, if_pos (show (nk x).1 < (nk p).1 from c)]; rfl
  ·rw [if_neg c, if_neg (show ¬ (nk x).1 < (nk p).1 from c), List.map_cons, ih]
theorem rcreate_ok {T : Nat} {l : St} {p : Str} {s : Sl} {d : Str} {o : Int} {seq : Bool} {Q : ByteArray → Int → AH → Prop} (h : RefIs tag σ 11 T l) (hk : (l.map (·.1)).Nodup) (hl : l.length ≤ 4294967290) (hd : SL.Read ro (fun _ => none) s (d.map vU))
  (hQ : ∀ tag' σ', StepS [11] ro tag σ tag' σ' → RefIs tag' σ' 11 T (rcr l p d o seq).1 → Q (S (rcr l p d o seq).2.1) (rcr l p d o seq).2.2 σ') : c_ref07_Tree_Create B ro (some ⟨T, 0, none⟩) (S p) s o seq σ Q := by
 refine ref07_Tree_Create_ok fun hs => ?_
 unfold f_ref07_Tree_Create
 have hsl : s.len = d.length := by rw [hd.1, List.length_map]
 have same : ∀ (e : Int) (tag1 : Nat → Nat) (σ1 : AH), Step [] ro tag σ tag1 σ1 → rcr l p d o seq = (l, [], e) → Q (⟨#[]⟩ : ByteArray) e σ1 := fun e tag1 σ1 st1 he => by
  have := hQ tag1 σ1 (st1.s (by simp)) (by rw [he]; exact h.keep st1)
  rw [he] at this; exact this
 have st0 : Step [] ro tag σ tag σ := Step.refl hs
 refine rparent_ok (fun hp => ?_) fun u hu => ?_
 ·rw [if_pos (by simp)]
  rw [L_S] at hp
  exact same 20 tag σ st0 (by unfold rcr; rw [hp])
 rw [L_S] at hu
 rw [if_neg (by simp)]
 by_cases c1 : 256 < d.length
 ·rw [if_pos (by omega)]
  exact same 75 tag σ st0 (by unfold rcr; rw [hu]; simp only; rw [if_pos c1])
 rw [if_neg (by omega)]
 refine rbad_ok ?_
 by_cases c2 : o < 0 ∨ 4611686018427387903 < o
 ·rw [if_pos (by simpa using c2)]
  exact same 10 tag σ st0 (by unfold rcr; rw [hu]; simp only; rw [if_neg c1, if_pos c2])
 rw [if_neg (by simpa using c2)]
 refine find7_ok (h.m hs) (by omega) ?_
 rcases fnd_spec (l := l) (k := u) 0 with ⟨e1, e2⟩ | ⟨j, n, e1, e2, e3⟩
 ·rw [e2, if_pos (by decide)]
  exact same 70 tag σ st0 (by unfold rcr; rw [hu]; simp only; rw [if_neg c1, if_neg c2, e1])
 rw [e3, if_neg (by omega), Nat.zero_add]
 have hjl : j < l.length := by
  rcases Nat.lt_or_ge j l.length with h | h
  ·exact h
  ·rw [List.getElem?_eq_none h] at e1; cases e1
 obtain ⟨s1, b1, d1, q1, q2, q3, q4⟩ := (h.m hs).row e1
 refine ⟨_, rfl, s1, q1, _, q3, by omega, by omega, n.own, q4 4 _ rfl, ?_⟩
 by_cases c3 : n.own ≠ 0
 ·rw [if_pos c3]
  exact same 74 tag σ st0 (by unfold rcr; rw [hu]; simp only; rw [if_neg c1, if_neg c2, e2]; simp only; rw [if_pos c3])
 rw [if_neg c3]
 refine ⟨_, rfl, s1, q1, _, q3, by omega, by omega, n.ctr, q4 3 _ rfl, ?_⟩
 by_cases c4 : 9999999999 < n.ctr
 ·rw [if_pos c4]
  exact same 76 tag σ st0 (by unfold rcr; rw [hu]; simp only; rw [if_neg c1, if_neg c2, e2]; simp only; rw [if_neg c3, if_pos c4])
 rw [if_neg c4]
 have hr : rcr l p d o seq = match (if seq then suffix p n.ctr else some p) with
   | none => (l, [], 20)
   | some q => if (l.lookup q).isSome then (l, [], 71) else (ins (q, ⟨0, 0, o, 0, d⟩) (modN l u bump), q, 0) := by
  conv => lhs; unfold rcr
  rw [hu]; simp only; rw [if_neg c1, if_neg c2, e2]; simp only; rw [if_neg c3, if_neg c4]
  all_goals (cases (if seq = true then suffix p n.ctr else some p) <;> rfl)
 have main : ∀ (q : Str) (tag1 : Nat → Nat) (σ1 : AH), (if seq then suffix p n.ctr else some p) = some q → Step [] ro tag σ tag1 σ1 → j13_ref07_Tree_Create B ro (some ⟨T, 0, none⟩) s o (j : Int) Q (S q) σ1 := by
  intro q tag1 σ1 hq st1
  rw [hq] at hr
  simp only at hr
  have h1 := h.keep st1
  have hs1 := st1.sep
  unfold j13_ref07_Tree_Create
  refine find7_ok (h1.m hs1) (by omega) ?_
  rcases (fnd_spec (l := l) (k := q) 0).symm with ⟨j', m, f1, f2, f3⟩ | ⟨f1, f2⟩
  ·rw [f3, if_pos (by omega)]
   exact same 71 tag1 σ1 st1 (by rw [hr, f2]; rfl)
  rw [f2, if_neg (by decide)]
  rw [f1] at hr
  simp only [Option.isSome_none, Bool.false_eq_true, if_false] at hr
  obtain ⟨l1, hl1⟩ : ∃ l1, l.set j (u, { n with ctr := i64.wrap (n.ctr + 1) }) = l1 := ⟨_, rfl⟩
  obtain ⟨x, hx⟩ : ∃ x : Str × Nd, (q, (⟨0, 0, o, 0, d⟩ : Nd)) = x := ⟨_, rfl⟩
  have hll : l1.length = l.length := by rw [← hl1, List.length_set]
  have el1 : modN l u (fun n => { n with ctr := i64.wrap (n.ctr + 1) }) = l1 := by rw [← hl1]; exact modN_set hk e1 _
  have hnk : (ins x l1).map nk = (ins x (modN l u bump)).map nk := by
   rw [ins_nk, ins_nk, ← el1]
   congr 1
   exact modN_nk fun n => rfl
  have hTo : ∃ o, σ1 T = some o := by
   obtain ⟨_, _, _, g2, _⟩ := h1
   exact g2.tagOf.2
  have fin : ∀ (out : Sl) (tag3 : Nat → Nat) (σ3 : AH), StepS [11] ro (tag0 tag1) σ1 tag3 σ3 → RefIs tag3 σ3 11 T l1 → OutAt tag3 σ3 out (ins x l1) → j24_ref07_Tree_Create B ro (some ⟨T, 0, none⟩) (S q) Q out σ3 := by
   intro out tag3 σ3 st3 h3 o3
   unfold j24_ref07_Tree_Create
   refine ⟨_, rfl, ?_⟩
   obtain ⟨s3, ds, g1, g2, g3, g4⟩ := h3
   refine g2.st (i := 0) st3.sep rfl (by simp) rfl fun σ4 st4 r4 => ?_
   obtain ⟨tagF, sF, rF⟩ := ref_swap (C := [11]) (by decide) hTo (st3.trans (st4.s (by decide))) r4 (o3.keep st4 (by decide) (by decide))
   have := hQ tagF σ4 ((st1.s (by simp)).trans sF) (by rw [hr, hx]; exact rF.nk hnk)
   rw [hr] at this; exact this
  have key := RefIs.stn (i := 3) (v := .int .i64 (i64.wrap (n.ctr + 1))) (n' := { n with ctr := i64.wrap (n.ctr + 1) }) (K := fun σ => lfpD (l30_ref07_Tree_Create B ro (some ⟨T, 0, none⟩) s o (S q) Q) ((⟨none, 0, 0⟩ : Sl), false, 0) σ)
   h1.tag0 hs1 e1 (by decide) (fun d => rfl) rfl rfl fun σ2 st2 h2 => by
    rw [hl1] at h2
    suffices ∀ (m k : Nat) (put : Bool) (out : Sl) (L : St) (tag3 : Nat → Nat) (σ3 : AH), k + m = l1.length → ins x l1 = L ++ (if put then l1.drop k else ins x (l1.drop k)) → L.length ≤ k + 1 → (put = false → L.length ≤ k) → StepS [11] ro (tag0 tag1) σ1 tag3 σ3 → RefIs tag3 σ3 11 T l1 → OutAt tag3 σ3 out L → lfpD (l30_ref07_Tree_Create B ro (some ⟨T, 0, none⟩) s o (S q) Q) (out, put, (k : Int)) σ3 from
     this l1.length 0 false _ [] (tag0 tag1) σ2 (Nat.zero_add _) rfl (Nat.zero_le _) (fun _ => Nat.zero_le _) (st2.s (by decide)) h2 OutAt.nil
    intro m
    induction m with
    | zero =>
     intro k put out L tag3 σ3 hkm hi hL hL0 st3 h3 o3
     obtain ⟨s3, e4, e5⟩ := (h3.m st3.sep).len
     have hdr : l1.drop k = [] := List.drop_of_length_le (by omega)
     rw [hdr] at hi
     refine lfpD.intro ?_
     unfold l30_ref07_Tree_Create
     simp only
     refine ⟨_, rfl, s3, e4, ?_⟩
     rw [if_neg (by omega)]
     unfold j21_ref07_Tree_Create
     cases put with
     | true =>
      rw [if_neg (by simp)]
      rw [if_pos rfl, List.append_nil] at hi
      rw [← hi] at o3
      exact fin out tag3 σ3 st3 h3 o3
     | false =>
      rw [if_pos (by simp)]
      rw [if_neg (by simp)] at hi
      refine copy_ok (tag := tag3) hd.keep st3.sep (by simp; omega) (fun v hv => by obtain ⟨c, _, rfl⟩ := List.mem_map.1 hv; rfl) fun d4 tag4 σ4 st4 r4 => ?_
      have o4 := o3.keep (st4 [])
      have h4 := h3.keep (st4 [])
      refine out_app (p := x) (d := d4) o4 (st4 []).sep (by rw [← hx]; exact r4) (by rw [← hx]; rfl) (by omega) fun s5 tag5 σ5 st5 o5 => ?_
      exact fin s5 tag5 σ5 (st3.trans (((st4 []).s (by simp)).trans (st5.s (by decide)))) (h4.keep st5 (by decide) (by decide) (by decide)) (by rw [hi]; exact o5)
    | succ m ih =>
     intro k put out L tag3 σ3 hkm hi hL hL0 st3 h3 o3
     have hkl : k < l1.length := by omega
     have hek := List.getElem?_eq_getElem hkl
     have hdr : l1.drop k = l1[k] :: l1.drop (k + 1) := List.drop_eq_getElem_cons hkl
     rw [hdr] at hi
     obtain ⟨s3, b3, d3, e4, e5, e6, e7, e8⟩ := h3.row st3.sep hek
     have next : ∀ (put : Bool) (out : Sl) (L : St) (tag4 : Nat → Nat) (σ4 : AH), ins x l1 = L ++ l1[k] :: (if put then l1.drop (k + 1) else ins x (l1.drop (k + 1))) → L.length ≤ k + 1 → (put = false → L.length ≤ k) → StepS [11] ro (tag0 tag1) σ1 tag4 σ4 → RefIs tag4 σ4 11 T l1 → OutAt tag4 σ4 out L →
       j36_ref07_Tree_Create B ro (some ⟨T, 0, none⟩) s o (S q) (k : Int) Q (lfpD (l30_ref07_Tree_Create B ro (some ⟨T, 0, none⟩) s o (S q) Q)) out put σ4 := by
      intro put out L tag4 σ4 hi hL hL0 st4 h4 o4
      obtain ⟨s4, b4, d4, e4, e5, e6, e7, e8⟩ := h4.row st4.sep hek
      unfold j36_ref07_Tree_Create
      refine ⟨_, rfl, s4, e4, _, e6, by omega, by omega, _, _, _, _, _, cellsAt_of 0 fun i v hv => by rw [Nat.zero_add]; exact e7 i v hv, ?_⟩
      refine out_app (p := l1[k]) (d := d4) o4 st4.sep e8 rfl (by omega) fun s5 tag5 σ5 st5 o5 => ?_
      rw [Pa.inc k (by omega)]
      refine ih (k + 1) put s5 (L ++ [l1[k]]) tag5 σ5 (by omega) (by rw [hi, List.append_assoc]; rfl) (by simp; omega) (fun hp => by have := hL0 hp; simp; omega) (st4.trans (st5.s (by decide))) (h4.keep st5 (by decide) (by decide) (by decide)) o5
     refine lfpD.intro ?_
     unfold l30_ref07_Tree_Create
     simp only
     refine ⟨_, rfl, s3, e4, ?_⟩
     rw [if_pos (by omega)]
     cases put with
     | true =>
      rw [if_neg (by simp)]
      unfold j45_ref07_Tree_Create
      rw [if_neg (by simp)]
      exact next true out L tag3 σ3 (by rw [hi]; rfl) hL hL0 st3 h3 o3
     | false =>
      rw [if_pos (by simp)]
      rw [if_neg (by simp)] at hi
      refine ⟨_, rfl, s3, e4, _, e6, by omega, by omega, S l1[k].1, by have := e7 0 _ rfl; rwa [add_zero] at this, ?_⟩
      rw [ins_cons] at hi
      have ex : x.1 = q := by rw [← hx]
      by_cases c : q < l1[k].1
      ·rw [show lessS (S q) (S l1[k].1) = true from (lessS_iff _ _).2 (by rw [L_S, L_S]; exact c)]
       unfold j45_ref07_Tree_Create
       rw [if_pos rfl]
       refine copy_ok (tag := tag3) hd.keep st3.sep (by simp; omega) (fun v hv => by obtain ⟨c, _, rfl⟩ := List.mem_map.1 hv; rfl) fun d4 tag4 σ4 st4 r4 => ?_
       have o4 := o3.keep (st4 [])
       have h4 := h3.keep (st4 [])
       refine out_app (p := x) (d := d4) o4 (st4 []).sep (by rw [← hx]; exact r4) (by rw [← hx]; rfl) (by omega) fun s5 tag5 σ5 st5 o5 => ?_
       rw [if_pos (by rw [ex]; exact c)] at hi
       exact next true s5 (L ++ [x]) tag5 σ5 (by rw [hi, List.append_assoc]; rfl) (by have := hL0 rfl; simp; omega) (fun h => by cases h) (st3.trans (((st4 []).s (by simp)).trans (st5.s (by decide)))) (h4.keep st5 (by decide) (by decide) (by decide)) o5
      ·rw [show lessS (S q) (S l1[k].1) = false from by
        rw [← Bool.not_eq_true, lessS_iff, L_S, L_S]; exact c]
       unfold j45_ref07_Tree_Create
       rw [if_neg (by simp)]
       rw [if_neg (by rw [ex]; exact c)] at hi
       exact next false out L tag3 σ3 (by rw [hi]; rfl) hL hL0 st3 h3 o3
  obtain ⟨s2, b2, d2, g1, g2, g3, g4, g5⟩ := key
  exact ⟨_, rfl, s2, g1, _, g2, by omega, by omega, n.ctr, g4 3 _ rfl, _, g2, by omega, by omega, g5⟩
 cases seq with
 | true =>
  rw [if_pos rfl]
  refine ⟨_, rfl, s1, q1, _, q3, by omega, by omega, n.ctr, q4 3 _ rfl, ?_⟩
  refine rsuffix_ok (tag := tag) hs (fun hq tag1 σ1 st1 => ?_) fun q hq tag1 σ1 st1 => ?_
  ·rw [if_pos (by simp)]
   exact same 20 tag1 σ1 st1 (by rw [hr, if_pos rfl, hq])
  ·rw [if_neg (by simp)]
   exact main q tag1 σ1 (by rw [if_pos rfl]; exact hq) st1
 | false =>
  rw [if_neg (by simp)]
  exact main p tag σ (by simp) st0
end Zt
namespace SL
open Go
variable {ro σ σ' : AH} {tag tag' : Nat → Nat}
theorem ReadW.cut {w lo n c : Nat} {s : Sl} {L : List (List Value)} (h : ReadW ro σ w s L) (hc : s.len ≤ s.cap) (hn : lo + n ≤ L.length) : ReadW ro σ w ⟨cutA s.a lo s.cap w, n, c⟩ ((L.drop lo).take n) := by
 obtain ⟨h1, h2, h3, h4⟩ := h
 refine ⟨by simp; omega, fun ha => ?_, fun x hx => h3 x (List.mem_of_mem_drop (List.mem_of_mem_take hx)), fun p hp i v hv => ?_⟩
 ·unfold cutA at ha
  split at ha
  ·have : L = [] := h2 ha
   rw [this]; simp
  ·cases e : s.a with
   | none => rw [h2 e]; simp
   | some x => rw [e] at ha; cases ha
 ·unfold cutA at hp
  split at hp
  ·have : n = 0 := by omega
   subst this
   cases hv
  ·cases e : s.a with
   | none => rw [e] at hp; cases hp
   | some x =>
    rw [e] at hp
    simp only [Option.map_some, Option.some.injEq] at hp
    subst hp
    rw [addr_add]
    refine h4 x e _ v ?_
    have k1 : L.flatten = (L.take lo).flatten ++ (((L.drop lo).take n).flatten ++ ((L.drop lo).drop n).flatten) := by
     rw [← List.flatten_append, List.take_append_drop, ← List.flatten_append, List.take_append_drop]
    have k2 : (L.take lo).flatten.length = lo * w := by
     rw [flat_len (w := w) fun x hx => h3 x (List.mem_of_mem_take hx), List.length_take, Nat.min_eq_left (by omega)]
    have hi : i < ((L.drop lo).take n).flatten.length := by
     rcases Nat.lt_or_ge i ((L.drop lo).take n).flatten.length with h | h
     ·exact h
     ·rw [List.getElem?_eq_none h] at hv; cases hv
    rw [k1, List.getElem?_append_right (by omega), k2, Nat.add_sub_cancel_left, List.getElem?_append_left hi]
    exact hv
theorem Row.toW {r w b : Nat} {e : TypeId} {l : List Value} (h : Row tag σ r e ⟨some ⟨b, 0, none⟩, w, w⟩ l) : RowW tag σ r e w ⟨some ⟨b, 0, none⟩, 1, 1⟩ [l] := by
 rcases h with ⟨h, _⟩ | ⟨c, cs, ha, ht, hb, hln, hc, hle, hg⟩
 ·cases h
 ·cases ha
  refine .inr ⟨b, cs, rfl, ht, hb, rfl, by rw [Nat.one_mul]; exact hc.symm, Nat.le_refl _, fun x hx => by rw [List.mem_singleton.1 hx]; exact hln.symm, fun i v hv => ?_⟩
  rw [List.flatten_singleton] at hv
  have hi : i < l.length := by
   rcases Nat.lt_or_ge i l.length with h | h
   ·exact h
   ·rw [List.getElem?_eq_none h] at hv; cases hv
  rw [hg i hi]; exact hv
end SL
namespace Zt
open Go SL G Pa Wi
variable {B : World} {ro σ σ' : AH} {tag tag' : Nat → Nat}
theorem rnew_ok {Q : Option Addr → AH → Prop} (hQ : ∀ T tag' σ', Step [] ro tag σ tag' σ' → RefIs tag' σ' 11 T St.new → Q (some ⟨T, 0, none⟩) σ') : c_ref07_New B ro σ Q := by
 refine ref07_New_ok fun hs => ?_
 unfold f_ref07_New
 refine nw_cells (tag := tag) 75 hs fun X tag1 σ1 st1 r1 => ?_
 refine nw_cells (tag := tag1) 11 (st1 []).sep fun T tag2 σ2 st2 r2 => ?_
 have r1' : Row tag1 σ1 75 159 ⟨some ⟨X, 0, none⟩, 5, 5⟩ (nodeV ([47], ⟨0, 0, 0, 0, []⟩) ⟨none, 0, 0⟩) := r1
 refine hQ T tag2 σ2 ((st1 []).trans (st2 [])) ⟨⟨some ⟨X, 0, none⟩, 1, 1⟩, [⟨none, 0, 0⟩], rfl, r2, RowW.keep r1'.toW (st2 []), fun i p d hp hd => ?_⟩
 cases i with
 | zero => cases hp; cases hd; exact Row.nil _ _
 | succ k => cases hp
theorem parent_none {p : Str} : parent p = none ↔ (p = [47] ∨ parts p = none) := by
 constructor
 ·intro h
  cases hp : parts p with
  | none => exact .inr rfl
  | some ps =>
   by_cases c : p = [47]
   ·exact .inl c
   ·obtain ⟨u, hu⟩ := parent_some hp c
    rw [h] at hu; cases hu
 ·rintro (h | h)
  ·rw [h]; rfl
  ·unfold parent; rw [h]
def rdel (l : St) (p : Str) (v : Int) : St × Int :=
 if parent p = none then (l, 20)
 else match l.lookup p with
  | none => (l, 70)
  | some n => if v ≠ -1 ∧ v ≠ n.ver then (l, 72) else if 0 < kc (l.map (·.1)) p then (l, 73) else (delK l p, 0)
def rset (l : St) (p d : Str) (v : Int) : St × Int × Int :=
 if parent p = none then (l, 0, 20)
 else if 256 < d.length then (l, 0, 75)
 else match l.lookup p with
  | none => (l, 0, 70)
  | some n => if v ≠ -1 ∧ v ≠ n.ver then (l, 0, 72) else (modN l p (setNd d), i64.wrap (n.ver + 1), 0)
theorem rset_srt {st : St} (hk : (st.map (·.1)).Nodup) (p d : Str) (v : Int) : rset (srt st) p d v = (srt (setD st p d v).1, (setD st p d v).2) := by
 unfold rset setD
 by_cases c : parent p = none
 ·rw [if_pos c, if_pos (parent_none.1 c)]
 rw [if_neg c, if_neg fun h => c (parent_none.2 h), lookup_srt hk]
 split
 ·rfl
 cases st.lookup p with
 | none => rfl
 | some n =>
  simp only
  split
  ·rfl
  ·rw [srt_mod hk]
theorem delK_nk (p : Str) : ∀ l : St, (delK l p).map nk = delK (l.map nk) p := by
 intro l
 induction l with
 | nil => rfl
 | cons x l ih =>
  obtain ⟨k, n⟩ := x
  have e : ∀ (k : Str) (n : Nd) (r : St), delK ((k, n) :: r) p = if p = k then r else (k, n) :: delK r p := fun _ _ _ => rfl
  rw [e, List.map_cons]
  show _ = delK ((k, { n with kids := 0 }) :: l.map nk) p
  rw [e]
  split
  ·rfl
  ·rw [List.map_cons, ih]; rfl
theorem rdel_srt {st : St} (hi : Inv st) (p : Str) (v : Int) : (rdel (srt st) p v).2 = (remove st p v).2 ∧ (rdel (srt st) p v).1.map nk = (srt (remove st p v).1).map nk := by
 have hk := hi.keys
 unfold rdel remove
 by_cases c : parent p = none
 ·rw [if_pos c, if_pos (parent_none.1 c)]; exact ⟨rfl, rfl⟩
 rw [if_neg c, if_neg fun h => c (parent_none.2 h), lookup_srt hk]
 cases hl : st.lookup p with
 | none => exact ⟨rfl, rfl⟩
 | some n =>
  simp only
  split
  ·exact ⟨rfl, rfl⟩
  have hkids := hi.kids p n hl
  rw [kc_perm ((srt_perm st).map (·.1)) p]
  by_cases c2 : 0 < kc (st.map (·.1)) p
  ·rw [if_pos c2, if_pos (by omega)]; exact ⟨rfl, rfl⟩
  rw [if_neg c2, if_neg (by omega)]
  cases hu : parent p with
  | none => exact absurd hu c
  | some u =>
   refine ⟨rfl, ?_⟩
   simp only
   have hk2 : ((modN st u less).map (·.1)).Nodup := by rw [keys_mod]; exact hk
   rw [srt_del hk2, srt_mod hk, delK_nk, delK_nk]
   congr 1
   exact (modN_nk0 (a := srt st) (u := u) (f := less) fun n => rfl).symm
theorem rdelete_ok {T : Nat} {l : St} {p : Str} {v : Int} {Q : Int → AH → Prop} (h : RefIs tag σ 11 T l) (hk : (l.map (·.1)).Nodup) (hl : l.length ≤ 4294967290)
  (hQ : ∀ tag' σ', StepS [11] ro tag σ tag' σ' → RefIs tag' σ' 11 T (rdel l p v).1 → Q (rdel l p v).2 σ') : c_ref07_Tree_Delete B ro (some ⟨T, 0, none⟩) (S p) v σ Q := by
 refine ref07_Tree_Delete_ok fun hs => ?_
 unfold f_ref07_Tree_Delete
 have same : ∀ e : Int, rdel l p v = (l, e) → Q e σ := fun e he => by
  have := hQ tag σ (StepS.refl hs) (by rw [he]; exact h)
  rw [he] at this; exact this
 refine bad7_ok ?_
 by_cases c1 : parent p = none
 ·rw [if_pos (by simpa using c1)]
  exact same 20 (by unfold rdel; rw [if_pos c1])
 rw [if_neg (by simpa using c1)]
 refine rnode_ok (h.m hs) (by omega) (fun hm => ?_) (fun n hn h1 h2 => ?_) fun j n hj hn hv => ?_
 ·rw [if_pos (by decide)]
  exact same 70 (by unfold rdel; rw [if_neg c1, hm])
 ·rw [if_pos (by decide)]
  exact same 72 (by unfold rdel; rw [if_neg c1, hn]; simp only; rw [if_pos ⟨h1, h2⟩])
 rw [if_neg (by simp)]
 refine below7_ok (h.m hs) (by omega) ?_
 have hnv : ¬ (v ≠ -1 ∧ v ≠ n.ver) := fun h => by rcases hv with h' | h'; exact h.1 h'; exact h.2 h'
 by_cases c2 : 0 < kc (l.map (·.1)) p
 ·rw [if_pos (by omega)]
  exact same 73 (by unfold rdel; rw [if_neg c1, hn]; simp only; rw [if_neg hnv, if_pos c2])
 rw [if_neg (by omega)]
 have hr : rdel l p v = (delK l p, 0) := by unfold rdel; rw [if_neg c1, hn]; simp only; rw [if_neg hnv, if_neg c2]
 have hjl : j < l.length := by
  rcases Nat.lt_or_ge j l.length with h | h
  ·exact h
  ·rw [List.getElem?_eq_none h] at hj; cases hj
 have herase : delK l p = l.take j ++ l.drop (j + 1) := by
  have := (delK_idx l (List.replicate l.length 0) j 0 p n (by simp) hk (by rw [List.getElem?_replicate, if_pos hjl]) hj).1
  rw [this, List.eraseIdx_eq_take_drop_succ]
 have hTo : ∃ o, σ T = some o := by
  obtain ⟨_, _, _, g2, _⟩ := h
  exact g2.tagOf.2
 have h0 := h.tag0
 obtain ⟨s, ds, g1, g2, g3, g4⟩ := h0
 have hzl : (List.zipWith nodeV l ds).length = l.length := by rw [List.length_zipWith, g1, Nat.min_self]
 have hln := g3.len
 rw [hzl] at hln
 have hcap := g3.cap
 have hT := Row.cell1 g2 hs
 refine ⟨_, rfl, s, hT, ⟨⟨by omega, by omega⟩, trivial⟩, ?_⟩
 refine awp_appendW (tag := tag0 tag) (l := []) (l2 := ((List.zipWith nodeV l ds).drop 0).take j) (RowW.nil 139 159 5) hs ?_ (t := 155) (by kernel_rfl) ty159 rfl (fun x hx v hv => ?_) (by rw [List.length_take, List.length_drop, hzl]; simp; omega) (by decide) fun s1 tag1 σ1 st1 r1 => ?_
 ·rw [Int.toNat_natCast, Nat.sub_zero]
  exact ReadW.cut (RowW.read g3 hs) hcap (by rw [hzl]; omega)
 ·exact stor (List.mem_of_mem_drop (List.mem_of_mem_take hx)) v hv
 refine ⟨s1, rfl, ?_⟩
 have st1 := st1 [] (.inl rfl)
 have g2a := g2.keep st1
 have g3a := RowW.keep g3 st1
 have e1 : i64.wrap ((j : Int) + 1) = ((j + 1 : Nat) : Int) := Pa.inc j (by omega)
 refine ⟨_, rfl, s, Row.cell1 g2a st1.sep, ⟨trivial, ?_⟩, ?_⟩
 ·rw [e1]; exact ⟨by omega, by simp only [cutHi]; omega⟩
 rw [e1, Int.toNat_natCast]
 refine awp_appendW (l2 := ((List.zipWith nodeV l ds).drop (j + 1)).take (s.len - (j + 1))) r1 st1.sep (ReadW.cut (RowW.read g3a st1.sep) hcap (by rw [hzl]; omega)) (t := 155) (by kernel_rfl) ty159 rfl (fun x hx v hv => ?_) (by simp; omega) (by decide) fun s2 tag2 σ2 st2 r2 => ?_
 ·exact stor (List.mem_of_mem_drop (List.mem_of_mem_take hx)) v hv
 refine ⟨s2, rfl, _, rfl, ?_⟩
 have st2 := st2 [139] (.inr (by simp))
 have g2b := g2a.keep st2 (by decide)
 refine g2b.st (i := 0) st2.sep rfl (by simp) rfl fun σ3 st3 r3 => ?_
 have hout : OutAt tag2 σ2 s2 (delK l p) := by
  refine ⟨ds.take j ++ ds.drop (j + 1), by rw [herase]; simp [g1], ?_, ?_⟩
  ·rw [herase, List.zipWith_append (by simp [g1])]
   have e2 : ([] : List (List Value)) ++ ((List.zipWith nodeV l ds).drop 0).take j ++ ((List.zipWith nodeV l ds).drop (j + 1)).take (s.len - (j + 1)) = List.zipWith nodeV (l.take j) (ds.take j) ++ List.zipWith nodeV (l.drop (j + 1)) (ds.drop (j + 1)) := by
    have a1 : ((List.zipWith nodeV l ds).drop (j + 1)).take (s.len - (j + 1)) = (List.zipWith nodeV l ds).drop (j + 1) := List.take_of_length_le (by rw [List.length_drop, hzl]; omega)
    rw [a1, List.nil_append, List.drop_zero, List.take_zipWith, List.drop_zipWith]
   rw [← e2]; exact r2
  ·rw [herase]
   refine rows_app (by simp [g1]) (fun i p' d hp hd => ?_) fun i p' d hp hd => ?_
   ·rw [List.getElem?_take] at hp hd
    split at hp
    ·rename_i c
     rw [if_pos c] at hd
     exact ((g4 i p' d hp hd).keep st1).keep st2 (by decide)
    ·cases hp
   ·rw [List.getElem?_drop] at hp hd
    exact ((g4 _ p' d hp hd).keep st1).keep st2 (by decide)
 obtain ⟨tagF, sF, rF⟩ := ref_swap (C := [11]) (by decide) hTo ((st1.s (by simp)).trans ((st2.s (by decide)).trans (st3.s (by decide)))) r3 (hout.keep st3 (by decide) (by decide))
 have := hQ tagF σ3 sF (by rw [hr]; exact rF)
 rw [hr] at this; exact this
where
 stor {l : St} {ds : List Sl} {x : List Value} (hx : x ∈ List.zipWith nodeV l ds) : ∀ v ∈ x, storable v = true := by
  obtain ⟨i, hi, rfl⟩ := List.getElem_of_mem hx
  rw [List.getElem_zipWith]
  intro v hv
  simp [nodeV] at hv
  rcases hv with rfl | rfl | rfl | rfl | rfl <;> rfl
end Zt
end Go.Proofs.YthfpmipeejjogaaGreatDoor
