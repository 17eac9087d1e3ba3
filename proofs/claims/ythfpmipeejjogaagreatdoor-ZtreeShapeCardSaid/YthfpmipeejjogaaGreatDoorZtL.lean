/- The laws of the tree, the walk: a tree behind a script. -/
import Derived.Test.YthfpmipeejjogaaGreatDoorZtQ
import Derived.Test.YthfpmipeejjogaaGreatDoorZtF
import Derived.Test.YthfpmipeejjogaaGreatDoorGL7
import Derived.Test.YthfpmipeejjogaaGreatDoorGR1
namespace Go.Proofs.YthfpmipeejjogaaGreatDoor.Zt
open Go Go.Proofs.YthfpmipeejjogaaGreatDoor.SL Go.Proofs.YthfpmipeejjogaaGreatDoor.G Go.Proofs.YthfpmipeejjogaaGreatDoor.Pa
set_option linter.unusedSimpArgs false
set_option linter.unusedVariables false
variable {B : World} {ro σ σ' : AH} {tag tag' : Nat → Nat}

theorem glob_lent {ψ : AH} (g : Glob ro) : Glob (join ro ψ) := by
  obtain ⟨m, o, h1, h2⟩ := g.maxlen
  exact ⟨⟨m, o, join_left h1, h2⟩, fun w hw => g.tab w fun b o hb => hw b o (join_left hb)⟩
theorem TreeIs.del {r T b : Nat} {st : St} (h : TreeIs tag σ r T st) (hr : r < 64) (hr0 : r ≠ 0) (hb : tag b = 0) : TreeIs tag (SL.del σ b) r T st := by
  obtain ⟨M, bs, h⟩ := h
  refine ⟨M, bs, h.keys, h.len, h.nd, h.cell.del hb hr0, h.map.del (by rw [hb]; omega), fun i c p hc hp => ?_⟩
  obtain ⟨s, h1, h2⟩ := h.nodes i c p hc hp
  exact ⟨s, h1.del hb (by omega), h2.del hb (by omega)⟩
theorem TreeIs.back {r T b r' : Nat} {st : St} {τ : AH} (h : TreeIs tag' τ r T st) (hd : Disj (SL.one σ b) τ) (hb : ∃ o, σ b = some o) : TreeIs (setTag tag' b r') (join (SL.one σ b) τ) r T st := by
  obtain ⟨M, bs, h⟩ := h
  refine ⟨M, bs, h.keys, h.len, h.nd, h.cell.back hd hb, h.map.back hd hb, fun i c p hc hp => ?_⟩
  obtain ⟨s, h1, h2⟩ := h.nodes i c p hc hp
  exact ⟨s, h1.back hd hb, h2.back hd hb⟩

set_option maxRecDepth 100000 in
theorem copy_ok {s : Sl} {l : List Value} {Q : Sl → AH → Prop} (h : SL.Read ro σ s l) (hs : SL.Sep ro σ) (hl : l.length ≤ 140737488355328) (hv : ∀ v ∈ l, storable v = true) (hQ : ∀ s' tag' σ', (∀ R, Step R ro tag σ tag' σ') → Row tag' σ' 6 5 s' l → Q s' σ') : c_ref01_Copy B ro s σ Q := by
  refine ref01_Copy_ok fun _ => ?_
  unfold f_ref01_Copy
  refine nw_cells (tag := tag) 0 hs fun b tag1 σ1 st1 r1 => ?_
  refine ref01_Join_ok fun _ => ?_
  unfold f_ref01_Join
  refine nw_cells (tag := tag1) 6 (st1 []).sep fun c tag2 σ2 st2 r2 => ?_
  have r1' := r1.keep (st2 []) (by simp)
  have h2 : SL.Read ro σ2 s l := (h.step (st1 [])).step (st2 [])
  refine lfpD.intro ?_
  unfold l4_ref01_Join
  simp only
  rw [if_pos (by decide)]
  obtain ⟨p, hp, hg⟩ := r1'.ptr (st2 []).sep (by simp)
  cases hp
  refine ⟨_, rfl, by decide, by decide, s, hg 0 _ rfl, ?_⟩
  refine awp_appendN r2 (st2 []).sep h2 u30 ty5 rfl hv (by simp; omega) (by decide) fun s' tag3 σ3 st3 r3 => ?_
  refine ⟨s', rfl, ?_⟩
  rw [show IntKind.i64.wrap (0 + 1) = 1 from by decide]
  refine lfpD.intro ?_
  show (if (1 : Int) < ((1 : Nat) : Int) then _ else _)
  rw [if_neg (by decide)]
  unfold j2_ref01_Join
  exact hQ s' tag3 σ3 (fun R => (st1 R).trans ((st2 R).trans (st3 R (.inl rfl)))) r3

structure OpV where
  kind : Int
  n : Int
  path : Str
  data : Str
  seq : Bool
def apply1 (st : St) (o : OpV) : St :=
  if o.kind = 1 then (create st o.path o.data o.n o.seq).1 else if o.kind = 2 then (remove st o.path o.n).1 else if o.kind = 3 then (setD st o.path o.data o.n).1 else st
theorem apply1_inv {st : St} (o : OpV) (h : Inv st) (hl : st.length ≤ 4398046511104) : Inv (apply1 st o) ∧ (apply1 st o).length ≤ st.length + 1 := by
  unfold apply1
  split
  · exact ⟨inv_create h hl, create_len _ _ _ _ _⟩
  · split
    · exact ⟨inv_remove h hl, Nat.le_trans (remove_len _ _ _) (Nat.le_succ _)⟩
    · split
      · exact ⟨inv_set h, by rw [setD_len]; exact Nat.le_succ _⟩
      · exact ⟨h, Nat.le_succ _⟩
def Ops (ro : AH) (s : Sl) (os : List OpV) : Prop := s.len = os.length ∧ ∀ j o, os[j]? = some o → ∃ q ds, s.a = some q ∧ (∀ σ, cellsAt ro σ (q.add (j * 5)) 0 [vI o.kind, vI o.n, .string (S o.path), Sl.v ds, .bool o.seq]) ∧ SL.Read ro (fun _ => none) ds (o.data.map vU)

set_option maxRecDepth 100000 in
theorem made_ok {a0 : Sl} {os : List OpV} {Q : Option Addr → AH → Prop} (r : Nat) (g : Glob ro) (hr : r < 64) (hr6 : r ≠ 6) (hr0 : r ≠ 0) (hO : Ops ro a0 os) (hl : os.length ≤ 2199023255552) (hd : ∀ o ∈ os, o.data.length ≤ 140737488355328)
    (hQ : ∀ T tag' σ', SL.Sep ro σ' → TreeIs tag' σ' r T (os.foldl apply1 St.new) → Inv (os.foldl apply1 St.new) → (os.foldl apply1 St.new).length ≤ 2199023255553 → Q (some ⟨T, 0, none⟩) σ') : c_law07_made B ro a0 σ Q := by
  refine law07_made_ok fun hs => ?_
  unfold f_law07_made
  refine new_ok (tag := fun _ => 0) r hr hr6 fun T tag1 σ1 st1 h1 => ?_
  rw [if_neg (by simp)]
  have hln := hO.1
  suffices ∀ m j tag σ, j + m = os.length → SL.Sep ro σ → TreeIs tag σ r T ((os.take j).foldl apply1 St.new) → Inv ((os.take j).foldl apply1 St.new) → ((os.take j).foldl apply1 St.new).length ≤ j + 1 → lfpD (l3_law07_made B ro a0 (some ⟨T, 0, none⟩) Q) (j : Int) σ from
    this _ 0 tag1 σ1 (Nat.zero_add _) st1.sep h1 inv_new (by simp [St.new])
  intro m
  induction m with
  | zero =>
    intro j tag σ hj hs h hi hlen
    refine lfpD.intro ?_
    unfold l3_law07_made
    rw [if_neg (by omega)]
    unfold j2_law07_made
    rw [List.take_of_length_le (by omega)] at h hi hlen
    exact hQ T tag σ hs h hi (by omega)
  | succ m ih =>
    intro j tag σ hj hs h hi hlen
    have hjl : j < os.length := by omega
    obtain ⟨q, ds, hq, hc, hrd⟩ := hO.2 j os[j] (List.getElem?_eq_getElem hjl)
    have hdj := hd _ (List.getElem_mem hjl)
    generalize hst : (os.take j).foldl apply1 St.new = st at h hi hlen
    have hnext : (os.take (j + 1)).foldl apply1 St.new = apply1 st os[j] := by
      rw [List.take_succ_eq_append_getElem hjl, List.foldl_append, hst]; rfl
    generalize os[j] = o at hc hrd hdj hnext
    obtain ⟨hi2, hl2⟩ := apply1_inv o hi (by omega)
    have next : ∀ tag' σ', SL.Sep ro σ' → TreeIs tag' σ' r T (apply1 st o) → j5_law07_made B ro a0 (some ⟨T, 0, none⟩) (j : Int) Q (lfpD (l3_law07_made B ro a0 (some ⟨T, 0, none⟩) Q)) σ' := fun tag' σ' hs' h' => by
      unfold j5_law07_made
      rw [Pa.inc j (by omega)]
      exact ih (j + 1) tag' σ' (by omega) hs' (by rw [hnext]; exact h') (by rw [hnext]; exact hi2) (by rw [hnext]; omega)
    refine lfpD.intro ?_
    unfold l3_law07_made
    rw [if_pos (by omega)]
    refine ⟨q, hq, by omega, by omega, o.kind, o.n, S o.path, ds, o.seq, hc σ, ?_⟩
    refine nw_st (tag := tag) 0 hs rfl (by simp [storable, Sl.v]) fun x tag2 σ2 st2 r2 => ?_
    have hs2 := (st2 []).sep
    have h2 := h.keep (st2 []) (by simp)
    obtain ⟨px, hpx, hg⟩ := r2.ptr hs2 (by simp)
    cases hpx
    have f0 := hg 0 _ rfl
    have f1 := hg 1 _ rfl
    have f2 := hg 2 _ rfl
    obtain ⟨ht0, hto⟩ := r2.tagOf
    refine ⟨o.kind, f0, ?_⟩
    by_cases k1 : o.kind = 1
    · rw [if_pos k1]
      refine lent_block x ?_
      have hs3 : SL.Sep (join ro (SL.one σ2 x)) (SL.del σ2 x) := hs2.lent
      refine ⟨S o.path, r2.lend hs2 (i := 2) rfl, o.n, r2.lend hs2 (i := 1) rfl, o.seq, r2.lend hs2 (i := 4) rfl, ds, r2.lend hs2 (i := 3) rfl, ?_⟩
      refine copy_ok (tag := tag2) (hrd.keep.lent x) hs3 (by simp; omega) (by simp [storable]) fun s' tag3 σ3 st3 r3 => ?_
      have h3 := (h2.del hr hr0 ht0 (b := x)).keep (st3 []) (by simp)
      refine create_ok (glob_lent g) hr hr6 hr0 h3 (r3.read (st3 []).sep) (by omega) fun tag4 σ4 st4 h4 => ?_
      intro hdis
      rw [L_S] at h4
      obtain ⟨R, hR, st4⟩ := st4
      have stB := ((st3 R).trans st4).back hs2 hdis hto
      refine next (setTag tag4 x (tag2 x)) _ stB.sep ?_
      have : apply1 st o = (create st o.path o.data o.n o.seq).1 := by unfold apply1; rw [if_pos k1]
      rw [this]
      exact h4.back (r' := tag2 x) hdis hto
    · rw [if_neg k1]
      by_cases k2 : o.kind = 2
      · rw [if_pos k2]
        refine ⟨S o.path, f2, o.n, f1, ?_⟩
        refine delete_ok g hr hr6 hr0 h2 (fun u n hu hn => ?_) fun tag4 σ4 st4 h4 => ?_
        · rw [L_S] at hu hn
          have hne : o.path ≠ [47] := fun e => by rw [e, root_parent] at hu; cases hu
          obtain ⟨u', m', e1, e2, _⟩ := hi.up _ n hn hne
          rw [hu] at e1; cases e1
          exact ⟨m', e2⟩
        · rw [L_S] at h4
          refine next tag4 _ st4.sep ?_
          have : apply1 st o = (remove st o.path o.n).1 := by unfold apply1; rw [if_neg k1, if_pos k2]
          rw [this]; exact h4
      · rw [if_neg k2]
        by_cases k3 : o.kind = 3
        · rw [if_pos k3]
          refine lent_block x ?_
          have hs3 : SL.Sep (join ro (SL.one σ2 x)) (SL.del σ2 x) := hs2.lent
          refine ⟨S o.path, r2.lend hs2 (i := 2) rfl, o.n, r2.lend hs2 (i := 1) rfl, ds, r2.lend hs2 (i := 3) rfl, ?_⟩
          refine copy_ok (tag := tag2) (hrd.keep.lent x) hs3 (by simp; omega) (by simp [storable]) fun s' tag3 σ3 st3 r3 => ?_
          have h3 := (h2.del hr hr0 ht0 (b := x)).keep (st3 []) (by simp)
          refine set_ok (glob_lent g) hr hr6 hr0 h3 (r3.read (st3 []).sep) (by omega) fun tag4 σ4 st4 h4 => ?_
          intro hdis
          rw [L_S] at h4
          obtain ⟨R, hR, st4⟩ := st4
          have stB := ((st3 R).trans st4).back hs2 hdis hto
          refine next (setTag tag4 x (tag2 x)) _ stB.sep ?_
          have : apply1 st o = (setD st o.path o.data o.n).1 := by unfold apply1; rw [if_neg k1, if_neg k2, if_pos k3]
          rw [this]
          exact h4.back (r' := tag2 x) hdis hto
        · rw [if_neg k3]
          refine next tag2 _ hs2 ?_
          have : apply1 st o = st := by unfold apply1; rw [if_neg k1, if_neg k2, if_neg k3]
          rw [this]; exact h2
end Go.Proofs.YthfpmipeejjogaaGreatDoor.Zt
