/- EnD, EnE, ZtX, Mem5, DelF, MuA, MuC -/
import Derived.Sort.Walk0
import Derived.Test.YthfpmipeejjogaaGreatDoorXI
/- The tree that bytes tell, the walk. -/
namespace Go.Proofs.YthfpmipeejjogaaGreatDoor.Zt
open Go Go.Proofs.YthfpmipeejjogaaGreatDoor.SL Go.Proofs.YthfpmipeejjogaaGreatDoor.G Go.Proofs.YthfpmipeejjogaaGreatDoor.Pa Go.Proofs.YthfpmipeejjogaaGreatDoor.Wi
set_option linter.unusedSimpArgs false
set_option linter.unusedVariables false
variable {B : World} {ro σ σ' : AH} {tag tag' : Nat → Nat}

theorem lessS_iff (a b : ByteArray) : lessS a b = true ↔ L a < L b := by
  unfold lessS
  rw [Go.Proofs.bytesLess_eq, ByteArray.toList_eq, ByteArray.toList_eq]
  simp [L]
theorem le_iff_lessS (a b : ByteArray) : (lessS a b = true ∨ a = b) ↔ L a ≤ L b := by
  rw [lessS_iff, List.le_iff_lt_or_eq]
  constructor
  · rintro (h | h)
    · exact .inl h
    · exact .inr (by rw [h])
  · rintro (h | h)
    · exact .inl h
    · exact .inr (L_inj h)
theorem TreeAt.add2 {r T M b : Nat} {bs : List Nat} {st : St} {q : Str} {n : Nd} {tag2 : Nat → Nat} {σ2 : AH} (h : TreeAt tag σ r T M bs st) (hr : r < 64) (hr6 : r ≠ 6) (hq : st.lookup q = none) (hnb : b ∉ bs) (k : Step [r + 64] ro tag σ tag2 σ2) (hnew : NodeAt tag2 σ2 r b n) (hm : MapIs tag2 σ2 (r + 64) M (mput (kv st bs) q (ptr b))) : TreeAt tag2 σ2 r T M (bs ++ [b]) (st ++ [(q, n)]) := by
  refine ⟨?_, by simp [h.len], ?_, h.cell.keep k (by simp), ?_, fun i c p hc hp => ?_⟩
  · rw [List.map_append, List.nodup_append]
    refine ⟨h.keys, by simp, ?_⟩
    intro x hx y hy
    simp at hy
    intro e
    exact lookup_none hq (by rw [← hy, ← e]; exact hx)
  · rw [List.nodup_append]
    refine ⟨h.nd, by simp, ?_⟩
    intro x hx y hy
    simp at hy
    intro e
    exact hnb (by rw [← hy, ← e]; exact hx)
  · rw [kv_app _ _ _ _ _ h.len, ← kv_mput _ _ _ _ h.len hq]; exact hm
  · rcases Nat.lt_or_ge i bs.length with hi | hi
    · rw [List.getElem?_append_left hi] at hc
      rw [List.getElem?_append_left (by rw [← h.len]; exact hi)] at hp
      exact (h.nodes i c p hc hp).keep k (by simp <;> omega) (by simp)
    · rw [List.getElem?_append_right hi] at hc
      rw [List.getElem?_append_right (by rw [← h.len]; exact hi), ← h.len] at hp
      cases hd : i - bs.length with
      | zero =>
        rw [hd] at hc hp
        cases hc; cases hp
        exact hnew
      | succ j => rw [hd] at hc; cases hc

set_option maxRecDepth 100000 in
/-- a node behind the last one -/
theorem lay_ok {r T M b : Nat} {bs : List Nat} {st : St} {p last : ByteArray} {n : Nd} {Q : Bool → AH → Prop} (g : Glob ro) (hr : r < 64) (hr6 : r ≠ 6) (hr0 : r ≠ 0) (h : TreeAt tag σ r T M bs st) (hn : NodeAt tag σ r b n) (hnb : b ∉ bs)
    (hk : ∀ x ∈ st, x.1 ≤ L last) (hne : ∀ x ∈ st, x.1 ≠ [])
    (hno : lay st (L last) (L p) n = none → ∀ tag' σ', StepC r ro tag σ tag' σ' → Q false σ') (hyes : ∀ st', lay st (L last) (L p) n = some st' → ∀ tag' σ', StepC r ro tag σ tag' σ' → (∃ bs', TreeAt tag' σ' r T M bs' st' ∧ ∀ x ∈ bs', x ∈ bs ∨ x = b) → Q true σ') :
    c_ztree_Tree_lay B ro (some ⟨T, 0, none⟩) p last (some ⟨b, 0, none⟩) σ Q := by
  refine ztree_Tree_lay_ok fun hs => ?_
  unfold f_ztree_Tree_lay
  obtain ⟨ds, hn1, hn2⟩ := id hn
  obtain ⟨pb, hpb, hg⟩ := hn1.ptr hs (by simp)
  cases hpb
  have dlen : ds.len = n.data.length := by rw [hn2.len, List.length_map]
  -- the first test
  let bad : Prop := parts (L p) = none ∨ L p ≤ L last ∨ 256 < n.data.length ∨ 10000000000 < n.ctr ∨ (n.own ≠ 0 ∧ 0 < n.ctr)
  have hbad : bad → lay st (L last) (L p) n = none := fun h => by unfold lay; rw [if_pos h]
  have refused : bad → j6_ztree_Tree_lay B ro (some ⟨T, 0, none⟩) p last (some ⟨b, 0, none⟩) Q true σ := fun hb => by
    unfold j6_ztree_Tree_lay
    rw [if_pos rfl]
    exact hno (hbad hb) tag σ (StepC.refl hs)
  have r4 : bad → j4_ztree_Tree_lay B ro (some ⟨T, 0, none⟩) p last (some ⟨b, 0, none⟩) Q true σ := fun hb => by
    unfold j4_ztree_Tree_lay; rw [if_pos rfl]; exact refused hb
  have r2 : bad → j2_ztree_Tree_lay B ro (some ⟨T, 0, none⟩) p last (some ⟨b, 0, none⟩) Q true σ := fun hb => by
    unfold j2_ztree_Tree_lay; rw [if_pos rfl]; exact r4 hb
  refine check_ok g ?_
  by_cases c1 : (¬ (Pa.chk (L p) = 0)) ∨ ((lessS p last = true) ∨ p = last)
  · rw [if_pos c1]
    refine r2 ?_
    rcases c1 with c1 | c1
    · refine .inl ?_
      cases e : parts (L p) with
      | none => rfl
      | some ps => exact absurd (chk_zero.2 ⟨ps, e⟩) c1
    · exact .inr (.inl ((le_iff_lessS p last).1 c1))
  rw [if_neg c1]
  simp only [not_or] at c1
  have hgt : ¬ L p ≤ L last := fun h => by
    rcases (le_iff_lessS p last).2 h with h | h
    · exact c1.2.1 h
    · exact c1.2.2 h
  obtain ⟨ps, hps⟩ := chk_zero.1 (Classical.not_not.1 c1.1)
  refine ⟨_, rfl, ds, hg 4 _ rfl, ?_⟩
  by_cases c2 : 256 < n.data.length
  · rw [show decide (256 < (ds.len : Int)) = true from by rw [dlen]; simp; omega]
    exact r2 (.inr (.inr (.inl c2)))
  rw [show decide (256 < (ds.len : Int)) = false from by rw [dlen]; simp; omega]
  unfold j2_ztree_Tree_lay
  rw [if_neg (by decide)]
  refine ⟨_, rfl, n.ctr, hg 1 _ rfl, ?_⟩
  by_cases c3 : 10000000000 < n.ctr
  · rw [show decide (10000000000 < n.ctr) = true from by simpa using c3]
    exact r4 (.inr (.inr (.inr (.inl c3))))
  rw [show decide (10000000000 < n.ctr) = false from by simpa using c3]
  unfold j4_ztree_Tree_lay
  rw [if_neg (by decide)]
  refine ⟨_, rfl, n.own, hg 2 _ rfl, ?_⟩
  have good : ¬ bad → j6_ztree_Tree_lay B ro (some ⟨T, 0, none⟩) p last (some ⟨b, 0, none⟩) Q false σ := fun hnbad => by
    have hq : st.lookup (L p) = none := by
      cases e : st.lookup (L p) with
      | none => rfl
      | some m => exact absurd (hk _ ((lookup_iff h.keys).1 e)) hgt
    unfold j6_ztree_Tree_lay
    rw [if_neg (by decide)]
    have hlay : lay st (L last) (L p) n = if L last = [] then (if L p = [47] ∧ n.data = [] ∧ n.ver = 0 ∧ n.own = 0 then some (st ++ [(L p, n)]) else none)
        else match parent (L p) with
          | none => none
          | some u => match st.lookup u with
            | none => none
            | some m => if m.own ≠ 0 then none else some (modN st u more ++ [(L p, n)]) := by
      conv => lhs; unfold lay
      rw [if_neg hnbad]
      try rfl
    by_cases cl : last = ⟨#[]⟩
    · rw [if_pos cl]
      have cl' : L last = [] := by rw [cl]; rfl
      rw [if_pos cl'] at hlay
      refine ⟨_, rfl, _, Row.cell1 h.cell hs, ?_⟩
      rw [← S_L p]
      refine awp_update_str h.map hs u126 u9 fun σ1 st1 m1 => ?_
      have st1c : StepC r ro tag σ tag σ1 := st1.c (by simp <;> omega)
      have hn' := hn.keep st1 (by simp <;> omega) (by simp <;> omega)
      have hA := h.add2 hr hr6 hq hnb st1 hn' m1
      obtain ⟨ds', hn1', hn2'⟩ := hn'
      obtain ⟨pb', hpb', hg'⟩ := hn1'.ptr st1.sep (by simp)
      cases hpb'
      have dlen' : ds'.len = n.data.length := by rw [hn2'.len, List.length_map]
      have fin : ∀ x : Bool, (x = true ↔ (L p = [47] ∧ n.data = [] ∧ n.ver = 0 ∧ n.own = 0)) → Q x σ1 := fun x hx => by
        by_cases hc : L p = [47] ∧ n.data = [] ∧ n.ver = 0 ∧ n.own = 0
        · rw [hx.2 hc]
          rw [if_pos hc] at hlay
          exact hyes _ hlay tag σ1 st1c ⟨_, hA, fun x hx => by simpa using hx⟩
        · have : x = false := by
            cases x with
            | false => rfl
            | true => exact absurd (hx.1 rfl) hc
          rw [this]
          rw [if_neg hc] at hlay
          exact hno hlay tag σ1 st1c
      have j10 : ∀ x : Bool, (x = true ↔ (L p = [47] ∧ n.data = [])) → j10_ztree_Tree_lay B ro (some ⟨b, 0, none⟩) Q x σ1 := fun x hx => by
        unfold j10_ztree_Tree_lay
        cases x with
        | true =>
          rw [if_pos rfl]
          have hx' := hx.1 rfl
          refine ⟨_, rfl, n.ver, hg' 0 _ rfl, ?_⟩
          unfold j12_ztree_Tree_lay
          by_cases hv : n.ver = 0
          · rw [if_pos (by simpa using hv)]
            refine ⟨_, rfl, n.own, hg' 2 _ rfl, ?_⟩
            unfold j14_ztree_Tree_lay
            exact fin _ (by simp [hx', hv])
          · rw [if_neg (by simpa using hv)]
            unfold j14_ztree_Tree_lay
            exact fin _ (by simp [hv])
        | false =>
          rw [if_neg (by decide)]
          have hx' : ¬ (L p = [47] ∧ n.data = []) := fun h => by have := hx.2 h; cases this
          unfold j12_ztree_Tree_lay
          rw [if_neg (by decide)]
          unfold j14_ztree_Tree_lay
          exact fin _ ⟨fun h => (by cases h), fun h => absurd ⟨h.1, h.2.1⟩ hx'⟩
      by_cases cr : S (L p) = (⟨#[47]⟩ : ByteArray)
      · rw [if_pos cr]
        have cr' : L p = [47] := S_inj.1 cr
        refine ⟨_, rfl, ds', hg' 4 _ rfl, ?_⟩
        refine j10 _ ?_
        rw [dlen']
        simp only [decide_eq_true_eq, cr', true_and]
        constructor
        · intro h; exact List.eq_nil_of_length_eq_zero (by omega)
        · intro h; rw [h]; rfl
      · rw [if_neg cr]
        have cr' : ¬ L p = [47] := fun h => cr (S_inj.2 h)
        exact j10 _ ⟨fun h => (by cases h), fun h => absurd h.1 cr'⟩
    · rw [if_neg cl]
      have cl' : L last ≠ [] := fun h => cl (L_inj h)
      rw [if_neg cl'] at hlay
      have j27no : ∀ x98, lay st (L last) (L p) n = none → j27_ztree_Tree_lay B ro (some ⟨T, 0, none⟩) p (some ⟨b, 0, none⟩) x98 Q true σ := fun x98 hl => by
        unfold j27_ztree_Tree_lay
        rw [if_pos rfl]
        exact hno hl tag σ (StepC.refl hs)
      have look : ∀ u : Str, (parent (L p) = none → lay st (L last) (L p) n = none) → (parent (L p) ≠ some u → st.lookup u = none) → (parent (L p) = some u ∨ parent (L p) = none) →
          awp Tryz.prog ro (Instr.lookup 126 (.map (some M)) (.string (S u)) false) (fun v σ =>
            (∃ (x98_26 : Option Addr), v = .pointer x98_26 ∧
             if x98_26 = none then
              j27_ztree_Tree_lay B ro (some ⟨T, 0, none⟩) p (some ⟨b, 0, none⟩) x98_26 Q true σ
             else
             ∃ p103_34 : Addr, x98_26 = some p103_34 ∧
             ∃ (x106_35 : Int), acell ro σ (p103_34.add 2) = some (.int .i64 x106_35) ∧
             j27_ztree_Tree_lay B ro (some ⟨T, 0, none⟩) p (some ⟨b, 0, none⟩) x98_26 Q (!(decide (x106_35 = 0))) σ)) σ := fun u hnp hnl hor => by
        refine awp_lookup_str h.map hs u126 u9 ty129 ?_
        rcases kv_lookup st bs u h.len with ⟨a, e⟩ | ⟨i, b', m, a1, a2, a3, e⟩
        · rw [e]
          refine ⟨none, rfl, ?_⟩
          rw [if_pos rfl]
          refine j27no none ?_
          rcases hor with hp | hp
          · rw [hlay, hp]; simp only; rw [a]
          · exact hnp hp
        · rw [e]
          refine ⟨some ⟨b', 0, none⟩, rfl, ?_⟩
          rw [if_neg (by simp)]
          have hp : parent (L p) = some u := Classical.byContradiction fun hc => by rw [hnl hc] at a3; cases a3
          obtain ⟨dm, hm1, hm2⟩ := h.nodes i b' _ a1 a2
          obtain ⟨pm, hpm, hgm⟩ := hm1.ptr hs (by simp)
          cases hpm
          refine ⟨_, rfl, m.own, hgm 2 _ rfl, ?_⟩
          by_cases co : m.own = 0
          · rw [show (!decide (m.own = 0)) = false from by simp [co]]
            have hl : lay st (L last) (L p) n = some (modN st u more ++ [(L p, n)]) := by rw [hlay, hp]; simp only; rw [a3]; simp only; rw [if_neg (by simpa using co)]
            unfold j27_ztree_Tree_lay
            rw [if_neg (by decide)]
            refine ⟨_, rfl, m.kids, hgm 3 _ rfl, _, rfl, ?_⟩
            refine hm1.st (i := 3) hs rfl (by simp) rfl fun σ1 st1 r1 => ?_
            have hA1 := h.write (n' := more m) hr hr6 a1 a2 st1 ⟨dm, r1, hm2.keep st1 (by simp <;> omega)⟩
            rw [← modN_set h.keys a2 more] at hA1
            have hbb : b ≠ b' := fun e => hnb (by rw [e]; exact List.mem_of_getElem? a1)
            have hnk := hn.keep st1 (by simp <;> omega) (by simp <;> omega)
            refine ⟨_, rfl, _, Row.cell1 hA1.cell st1.sep, ?_⟩
            rw [← S_L p]
            refine awp_update_str hA1.map st1.sep u126 u9 fun σ2 st2 m2 => ?_
            have hq1 : (modN st u more).lookup (L p) = none := by
              rw [lookup_mod]; split
              · rw [hq]; rfl
              · exact hq
            have hA2 := hA1.add2 hr hr6 hq1 hnb st2 (hnk.keep st2 (by simp <;> omega) (by simp <;> omega)) m2
            exact hyes _ hl tag σ2 ((st1.c (by simp <;> omega)).trans (st2.c (by simp <;> omega))) ⟨_, hA2, fun x hx => by simpa using hx⟩
          · rw [show (!decide (m.own = 0)) = true from by simp [co]]
            exact j27no _ (by rw [hlay, hp]; simp only; rw [a3]; simp only; rw [if_pos co])
      refine Pa.parent_ok g (fun hpn => ?_) (fun u hu => ?_)
      · refine ⟨_, rfl, _, Row.cell1 h.cell hs, ?_⟩
        refine look [] (fun hp => by rw [hlay, hp]) (fun _ => ?_) (.inr hpn)
        cases e : st.lookup [] with
        | none => rfl
        | some m => exact absurd rfl (hne _ ((lookup_iff h.keys).1 e))
      · refine ⟨_, rfl, _, Row.cell1 h.cell hs, ?_⟩
        exact look u (fun hp => by rw [hu] at hp; cases hp) (fun hc => absurd hu hc) (.inl hu)
  by_cases c4 : n.own ≠ 0
  · rw [if_pos (by simpa using c4)]
    refine ⟨_, rfl, n.ctr, hg 1 _ rfl, ?_⟩
    unfold j38_ztree_Tree_lay
    by_cases c5 : 0 < n.ctr
    · rw [show decide (0 < n.ctr) = true from by simpa using c5]
      exact refused (.inr (.inr (.inr (.inr ⟨c4, c5⟩))))
    · rw [show decide (0 < n.ctr) = false from by simpa using c5]
      refine good ?_
      rintro (h | h | h | h | h)
      · rw [hps] at h; cases h
      · exact hgt h
      · exact c2 h
      · exact c3 h
      · exact c5 h.2
  · rw [if_neg (by simpa using c4)]
    unfold j38_ztree_Tree_lay
    refine good ?_
    rintro (h | h | h | h | h)
    · rw [hps] at h; cases h
    · exact hgt h
    · exact c2 h
    · exact c3 h
    · exact c4 h.1
end Go.Proofs.YthfpmipeejjogaaGreatDoor.Zt

/- The tree that bytes tell, the walk: Decode. -/
namespace Go.Proofs.YthfpmipeejjogaaGreatDoor.SL
open Go
variable {ro σ σ' : AH} {tag tag' : Nat → Nat}
/-- only roles of these classes change -/
def StepS (C : List Nat) (ro : AH) (tag : Nat → Nat) (σ : AH) (tag' : Nat → Nat) (σ' : AH) : Prop := ∃ R : List Nat, (∀ x ∈ R, x % 64 ∈ C) ∧ Step R ro tag σ tag' σ'
theorem Step.s {C R : List Nat} (h : Step R ro tag σ tag' σ') (hR : ∀ x ∈ R, x % 64 ∈ C) : StepS C ro tag σ tag' σ' := ⟨R, hR, h⟩
theorem StepC.s {C : List Nat} {c : Nat} (h : StepC c ro tag σ tag' σ') (hc : c ∈ C) : StepS C ro tag σ tag' σ' := by
  obtain ⟨R, h1, h2⟩ := h
  exact ⟨R, fun x hx => by rw [h1 x hx]; exact hc, h2⟩
theorem StepS.sep {C : List Nat} (h : StepS C ro tag σ tag' σ') : Sep ro σ' := by obtain ⟨_, _, h⟩ := h; exact h.sep
theorem StepS.refl {C : List Nat} (h : Sep ro σ) : StepS C ro tag σ tag σ := ⟨[], by simp, Step.refl h⟩
theorem StepS.trans {C : List Nat} {tag'' : Nat → Nat} {σ'' : AH} (h : StepS C ro tag σ tag' σ') (k : StepS C ro tag' σ' tag'' σ'') : StepS C ro tag σ tag'' σ'' := by
  obtain ⟨R, h1, h2⟩ := h
  obtain ⟨R', k1, k2⟩ := k
  refine ⟨R ++ R', fun x hx => ?_, (h2.mono fun r hr => by simp [hr]).trans (k2.mono fun r hr => by simp [hr])⟩
  rcases List.mem_append.1 hx with h | h
  · exact h1 x h
  · exact k1 x h
theorem StepS.mono {C D : List Nat} (h : StepS C ro tag σ tag' σ') (hd : ∀ c ∈ C, c ∈ D) : StepS D ro tag σ tag' σ' := by
  obtain ⟨R, h1, h2⟩ := h
  exact ⟨R, fun x hx => hd _ (h1 x hx), h2⟩
theorem Row.keepS {C : List Nat} {r : Nat} {e : TypeId} {s : Sl} {l : List Value} (h : Row tag σ r e s l) (k : StepS C ro tag σ tag' σ') (hr : r % 64 ∉ C) : Row tag' σ' r e s l := by
  obtain ⟨R, h1, h2⟩ := k
  exact h.keep h2 fun m => hr (h1 _ m)
end Go.Proofs.YthfpmipeejjogaaGreatDoor.SL
namespace Go.Proofs.YthfpmipeejjogaaGreatDoor.Zt
open Go Go.Proofs.YthfpmipeejjogaaGreatDoor.SL Go.Proofs.YthfpmipeejjogaaGreatDoor.G Go.Proofs.YthfpmipeejjogaaGreatDoor.Pa Go.Proofs.YthfpmipeejjogaaGreatDoor.Wi
set_option linter.unusedSimpArgs false
set_option linter.unusedVariables false
variable {B : World} {ro σ σ' : AH} {tag tag' : Nat → Nat}

theorem TreeIs.keepS {C : List Nat} {r T : Nat} {st : St} (h : TreeIs tag σ r T st) (k : StepS C ro tag σ tag' σ') (hr : r % 64 ∉ C) (h6 : 6 ∉ C) : TreeIs tag' σ' r T st := by
  obtain ⟨R, h1, h2⟩ := k
  exact h.keep h2 fun x hx => ⟨fun e => hr (by rw [← e]; exact h1 x hx), fun e => h6 (by have := h1 x hx; rw [e] at this; exact this)⟩
theorem TreeAt.fresh_b {r T M b : Nat} {bs : List Nat} {st : St} (h : TreeAt tag σ r T M bs st) (hb : σ b = none) : b ∉ bs := fun hm' => by
  obtain ⟨i, hi, e⟩ := List.getElem_of_mem hm'
  have hb' : bs[i]? = some b := by rw [List.getElem?_eq_getElem hi, e]
  have hil : i < st.length := by rw [← h.len]; exact hi
  obtain ⟨s, hn, _⟩ := h.nodes i b _ hb' (List.getElem?_eq_getElem hil)
  obtain ⟨_, o, ho⟩ := hn.tagOf
  rw [hb] at ho; cases ho
theorem rnode_shorter {x : Rd} (h : (rnode x).2.err = 0) : (rnode x).2.rest.length < x.rest.length := by
  unfold rnode at h ⊢
  simp only at h ⊢
  have h4 := rnum_err h
  have h3 := rnum_err h4
  have h2 := rnum_err h3
  have h1 := rblob_err h2
  have e1 := (rblob_split (r := x) h1).2
  have e2 := (rblob_split (r := (rblob x).2) h2).2
  have e3 := (rnum_split (r := (rblob (rblob x).2).2) h3).2
  have e4 := (rnum_split (r := (rnum (rblob (rblob x).2).2).2) h4).2
  have e5 := (rnum_split (r := (rnum (rnum (rblob (rblob x).2).2).2).2) h).2
  have l1 := congrArg List.length e1
  have l2 := congrArg List.length e2
  have l3 := congrArg List.length e3
  have l4 := congrArg List.length e4
  have l5 := congrArg List.length e5
  simp only [List.length_append, blob] at l1 l2 l3 l4 l5
  have := List.length_pos_iff.2 (vput_ne (rblob x).1.length)
  omega
theorem kv_at : ∀ (st : St) (bs : List Nat) (i : Nat) (p : Str × Nd) (b : Nat), st[i]? = some p → bs[i]? = some b → (kv st bs)[i]? = some (p.1, ptr b) := by
  intro st
  induction st with
  | nil => intro bs i p b h; cases h
  | cons q st ih =>
    intro bs i p b h hb
    cases bs with
    | nil => cases hb
    | cons c bs =>
      obtain ⟨q, m⟩ := q
      cases i with
      | zero => cases h; cases hb; rfl
      | succ i => unfold kv; simpa using ih bs i p b (by simpa using h) (by simpa using hb)

set_option maxRecDepth 100000 in
/-- the last look at all nodes -/
theorem counters_ok {r T M : Nat} {bs : List Nat} {st : St} {Q : Option Addr → Int → AH → Prop} (hr : r < 64) (hr0 : r ≠ 0) (hr6 : r ≠ 6) (h : TreeAt tag σ r T M bs st) (hs : SL.Sep ro σ)
    (hno : (st.all fun p => decide (p.2.kids ≤ p.2.ctr)) = false → ∀ tag' σ', Step [0] ro tag σ tag' σ' → Q none 13 σ')
    (hyes : (st.all fun p => decide (p.2.kids ≤ p.2.ctr)) = true → ∀ tag' σ', Step [0] ro tag σ tag' σ' → TreeAt tag' σ' r T M bs st → Q (some ⟨T, 0, none⟩) 0 σ') : j3_ztree_Decode B ro T Q σ := by
  unfold j3_ztree_Decode
  refine ⟨_, Row.cell1 h.cell hs, ?_⟩
  refine awp_range_map u126 h.map hs fun es clock x hM hes hbn hro hx => ?_
  refine ⟨_, rfl, ?_⟩
  have hxM : x ≠ M := fun e => by rw [e, hM] at hx; cases hx
  have hlen : es.toList.length = st.length := by
    have := congrArg List.length hes
    simp only [List.length_map] at this
    rw [this, kv_length st bs h.len]
  suffices ∀ (m : Nat) (seen : Array Nat) (tag1 : Nat → Nat) (σ1 : AH), unmet es seen = m → Step [0] ro tag σ tag1 σ1 → tag1 x = 0 → σ1 x = some (.mapIter (some M) clock seen clock) → σ1 M = some (.map es clock) → TreeAt tag1 σ1 r T M bs st →
      (∀ (i : Nat) (e : MapEntry) (p : Str × Nd), es.toList[i]? = some e → st[i]? = some p → seen.contains e.born = true → p.2.kids ≤ p.2.ctr) → lfpD (l7_ztree_Decode B ro ⟨x, 0, none⟩ T Q) () σ1 from by
    have st1 : Step [0] ro tag σ (setTag tag x 0) (upd σ x (.mapIter (some M) clock #[] clock)) := Step.fresh hs hro hx
    exact this _ #[] _ _ rfl st1 (by simp [setTag]) (upd_same _ _ _) (by rw [upd_ne _ _ hxM.symm]; exact hM) (h.keep st1 (by simp; omega)) (fun i e p _ _ hc => by simp at hc)
  intro m
  induction m using Nat.strongRecOn with
  | ind m ih =>
    intro seen tag1 σ1 hm hst htx hit hmp hA hseen
    have hs1 := hst.sep
    refine lfpD.intro ?_
    unfold l7_ztree_Decode
    refine awp_next_map hit hmp hs1 hbn (fun hall => ?_) fun e he hne => ?_
    · refine .inl ⟨rfl, ?_⟩
      unfold j4_ztree_Decode
      refine hyes ?_ tag1 σ1 hst hA
      rw [List.all_eq_true]
      intro p hp
      obtain ⟨i, hi, rfl⟩ := List.getElem_of_mem hp
      have hie : i < es.toList.length := by omega
      have := hseen i es.toList[i] st[i] (List.getElem?_eq_getElem hie) (List.getElem?_eq_getElem hi) (hall _ (List.getElem_mem hie))
      simpa using this
    · refine .inr ⟨_, _, rfl, ?_⟩
      have st2 : Step [0] ro tag1 σ1 tag1 (upd σ1 x (.mapIter (some M) clock (seen.push e.born) clock)) := step_obj hs1 htx hit
      have hmp2 : upd σ1 x (.mapIter (some M) clock (seen.push e.born) clock) M = some (.map es clock) := by rw [upd_ne _ _ hxM.symm]; exact hmp
      refine awp_entry_map (upd_same _ _ _) hmp2 st2.sep hbn he ?_
      obtain ⟨i, hi, rfl⟩ := List.getElem_of_mem he
      have hil : i < st.length := by omega
      have hib : i < bs.length := by rw [h.len]; exact hil
      have hval : entV es.toList[i] = pairV (st[i].1, ptr bs[i]) := by
        have h1 : (es.toList.map entV)[i]? = some (entV es.toList[i]) := by rw [List.getElem?_map, List.getElem?_eq_getElem hi]; rfl
        rw [hes, List.getElem?_map, kv_at st bs i _ _ (List.getElem?_eq_getElem hil) (List.getElem?_eq_getElem hib)] at h1
        exact (Option.some.inj h1).symm
      have hv : es.toList[i].val = ptr bs[i] := congrArg Prod.snd hval
      rw [hv]
      refine ⟨es.toList[i].key, some ⟨bs[i], 0, none⟩, rfl, ?_⟩
      have hA2 := hA.keep st2 (by simp; omega)
      obtain ⟨ds, hn1, _⟩ := hA2.nodes i bs[i] st[i] (List.getElem?_eq_getElem hib) (List.getElem?_eq_getElem hil)
      obtain ⟨q, hq, hg⟩ := hn1.ptr st2.sep (by simp)
      cases hq
      refine ⟨_, rfl, _, rfl, _, hg 1 _ rfl, _, hg 3 _ rfl, ?_⟩
      by_cases hc : st[i].2.ctr < st[i].2.kids
      · rw [if_pos hc]
        refine hno ?_ tag1 _ (hst.trans st2)
        rw [← Bool.not_eq_true, List.all_eq_true]
        intro hall
        have := hall st[i] (List.getElem_mem hil)
        simp at this; omega
      · rw [if_neg hc]
        refine ih (unmet es (seen.push es.toList[i].born)) (by rw [← hm]; exact unmet_push he hne) _ tag1 _ rfl (hst.trans st2) htx (upd_same _ _ _) hmp2 hA2 fun j e' p hj hp hcont => ?_
        rw [Array.contains_push] at hcont
        by_cases hb : e'.born = es.toList[i].born
        · have hji : j = i := by
            have h1 : (es.toList.map (·.born))[j]? = some es.toList[i].born := by rw [List.getElem?_map, hj, ← hb]; rfl
            have h2 : (es.toList.map (·.born))[i]? = some es.toList[i].born := by rw [List.getElem?_map, List.getElem?_eq_getElem hi]; rfl
            exact idx_inj hbn.nd h1 h2
          subst hji
          rw [List.getElem?_eq_getElem hil] at hp
          cases hp
          omega
        · refine hseen j e' p hj hp ?_
          cases h1 : seen.contains e'.born with
          | true => rfl
          | false =>
            rw [h1, Bool.false_or] at hcont
            exact absurd (eq_of_beq hcont) hb

set_option maxRecDepth 100000 in
theorem decode_ok {r : Nat} {a0 : Sl} {b : Str} {Q : Option Addr → Int → AH → Prop} (g : Glob ro) (hr : r < 64) (hr6 : r ≠ 6) (hr0 : r ≠ 0) (hr3 : r ≠ 31) (h : SL.Read ro σ a0 (b.map vU)) (hl : b.length ≤ 140737488355328)
    (hno : dec b = none → ∀ tag' σ', StepS [r, 31, 0] ro tag σ tag' σ' → Q none 13 σ')
    (hyes : ∀ st, dec b = some st → ∀ T tag' σ', StepS [r, 31, 0] ro tag σ tag' σ' → TreeIs tag' σ' r T st → Q (some ⟨T, 0, none⟩) 0 σ') : c_ztree_Decode B ro a0 σ Q := by
  refine ztree_Decode_ok fun hs => ?_
  unfold f_ztree_Decode
  refine nw_map (tag := tag) (r + 64) hs fun M tag1 σ1 st1 m1 => ?_
  refine nw_cells (tag := tag1) r (st1 []).sep fun T tag2 σ2 st2 r2 => ?_
  have m2 := m1.keep (st2 []) (by simp)
  refine newReader_ok (tag := tag2) (r := 31) ((h.step (st1 [])).step (st2 [])) (st2 []).sep hl fun A tag3 σ3 st3 rd3 => ?_
  have hA3 : TreeAt tag3 σ3 r T M [] [] := ⟨by simp, rfl, by simp, r2.keep (st3 []) (by simp), m2.keep (st3 []) (by simp), fun i b p hb => by cases hb⟩
  obtain ⟨R0, hR⟩ : ∃ R0, decL (b.length + 1) ⟨b, 0⟩ [] [] = R0 := ⟨_, rfl⟩
  have hdb0 : dec b = R0.bind fun st => if st.all fun p => decide (p.2.kids ≤ p.2.ctr) then some st else none := by unfold dec; rw [hR]; cases R0 <;> rfl
  suffices ∀ (f : Nat) (x : Rd) (st : St) (bs : List Nat) (last : ByteArray) (tag4 : Nat → Nat) (σ4 : AH), decL f x st (L last) = R0 → x.rest.length < f → x.err = 0 → (∀ y ∈ st, y.1 ≤ L last) → (∀ y ∈ st, y.1 ≠ []) →
      StepS [r, 31, 0] ro tag σ tag4 σ4 → TreeAt tag4 σ4 r T M bs st → RdAt tag4 σ4 31 A x → lfpD (l17_ztree_Decode B ro T (some ⟨A, 0, none⟩) Q) last σ4 from
    this (b.length + 1) ⟨b, 0⟩ [] [] ⟨#[]⟩ tag3 σ3 hR (by simp) rfl (fun _ h => by cases h) (fun _ h => by cases h) (((st1 []).s (by simp)).trans (((st2 []).s (by simp)).trans ((st3 []).s (by simp)))) hA3 rd3
  intro f
  induction f with
  | zero => intro x st bs last tag4 σ4 _ hlt; omega
  | succ f ih =>
    intro x st bs last tag4 σ4 hdec hlt herr hk hne hst hA hrd
    have hs4 := hst.sep
    unfold decL at hdec
    have hdb := hdb0
    refine lfpD.intro ?_
    unfold l17_ztree_Decode
    refine left_ok hrd hs4 ?_
    have h31 : (31 : Nat) ≠ 6 := by decide
    by_cases hend : x.rest = [] ∧ L last ≠ []
    · rw [if_neg (by
        rintro (h | h)
        · rw [hend.1] at h; simp at h
        · exact hend.2 (by rw [h]; rfl))]
      rw [if_pos hend] at hdec
      rw [← hdec] at hdb
      simp only [Option.bind_some] at hdb
      refine counters_ok hr hr0 hr6 hA hs4 (fun hc tag5 σ5 st5 => ?_) fun hc tag5 σ5 st5 hA5 => ?_
      · exact hno (by rw [hdb, if_neg (by rw [hc]; simp)]) tag5 σ5 (hst.trans (st5.s (by simp)))
      · exact hyes st (by rw [hdb, if_pos hc]) T tag5 σ5 (hst.trans (st5.s (by simp))) ⟨M, bs, hA5⟩
    · rw [if_neg hend] at hdec
      rw [if_pos (by
        by_cases h : L last = []
        · exact .inr (L_inj h)
        · refine .inl ?_
          have : x.rest ≠ [] := fun e => hend ⟨e, h⟩
          have := List.length_pos_iff.2 this
          omega)]
      refine rdText_ok hrd h31 hs4 fun tag5 σ5 st5 rd5 => ?_
      refine rdBlob_ok rd5 h31 st5.sep fun ds tag6 σ6 st6 r6 rd6 => ?_
      have h431 : ∀ x ∈ [31], x % 64 ≠ r % 64 ∧ x ≠ 6 := by simp; omega
      have hA6 := (hA.keep st5 h431).keep st6 h431
      refine nw_cellsF (tag := tag6) (fun b => r + 64 * (b + 2)) st6.sep fun c tag7 σ7 hro7 hc7 st7 r7 => ?_
      have hnb := hA6.fresh_b hc7
      have hA7 := hA6.keep (st7 []) (by simp)
      have rd7 := rd6.keep (st7 []) (by simp) (by simp)
      have hr67 := r6.keep (st7 []) (by simp)
      refine rdNum_ok rd7 h31 (st7 []).sep fun σ8 st8 rd8 => ?_
      refine rdNum_ok rd8 h31 st8.sep fun σ9 st9 rd9 => ?_
      refine rdNum_ok rd9 h31 st9.sep fun σa sta rda => ?_
      have k31 : ∀ c : Nat, r + 64 * (c + 2) ∉ [31] := fun c => by simp; omega
      have rna := ((r7.keep st8 (k31 c)).keep st9 (k31 c)).keep sta (k31 c)
      have hAa := ((hA7.keep st8 h431).keep st9 h431).keep sta h431
      have hda := ((hr67.keep st8 (by simp)).keep st9 (by simp)).keep sta (by simp)
      refine rna.st (i := 0) sta.sep rfl (by simp) rfl fun σb stb rb => ?_
      refine rb.st (i := 1) stb.sep rfl (by simp) rfl fun σc stc rc => ?_
      refine rc.st (i := 2) stc.sep rfl (by simp) rfl fun σd std rdd => ?_
      have stbd := stb.trans (stc.trans std)
      have kc31 : (31 : Nat) ∉ [r + 64 * (c + 2)] := by simp; omega
      have kc6 : (6 : Nat) ∉ [r + 64 * (c + 2)] := by simp; omega
      have rdD := rda.keep stbd kc31 kc6
      have hAd : TreeAt tag7 σd r T M bs st := by
        refine ⟨hAa.keys, hAa.len, hAa.nd, hAa.cell.keep stbd (by simp), hAa.map.keep stbd (by simp; omega), fun i b p hb hp => ?_⟩
        refine (hAa.nodes i b p hb hp).keep stbd ?_ kc6
        simp
        intro e
        have : b = c := by omega
        subst this
        exact hnb (List.mem_of_getElem? hb)
      have hnode : NodeAt tag7 σd r c (rnode x).1.2 := ⟨ds, rdd, hda.keep stbd kc6⟩
      have stD : StepS [r, 31, 0] ro tag σ tag7 σd := hst.trans ((st5.s (by simp)).trans ((st6.s (by simp)).trans (((st7 []).s (by simp)).trans ((st8.s (by simp)).trans ((st9.s (by simp)).trans ((sta.s (by simp)).trans (stbd.s (by simp; omega))))))))
      refine rerr_ok rdD std.sep ?_
      by_cases he : (rnode x).2.err = 0
      · rw [if_neg (by simpa [rnode] using he)]
        rw [if_neg (by simpa using he)] at hdec
        have hp : L (S (rblob x).1) = (rnode x).1.1 := by rw [L_S]; rfl
        refine lay_ok g hr hr6 hr0 hAd hnode hnb hk hne (fun hlay tag8 σe ste => ?_) fun st' hlay tag8 σe ste ⟨bs', hAe, hbs⟩ => ?_
        · rw [hp] at hlay
          rw [hlay] at hdec
          simp only at hdec
          rw [← hdec] at hdb
          unfold j27_ztree_Decode
          rw [if_pos (by decide)]
          exact hno hdb tag8 σe (stD.trans (ste.s (by simp)))
        · rw [hp] at hlay
          rw [hlay] at hdec
          simp only at hdec
          unfold j27_ztree_Decode
          rw [if_neg (by decide)]
          have hsh := rnode_shorter he
          have hkeys : (∀ y ∈ st', y.1 ≤ (rnode x).1.1) ∧ ∀ y ∈ st', y.1 ≠ [] := by
            unfold lay at hlay
            by_cases hbad : parts (rnode x).1.1 = none ∨ (rnode x).1.1 ≤ L last ∨ 256 < (rnode x).1.2.data.length ∨ 10000000000 < (rnode x).1.2.ctr ∨ ((rnode x).1.2.own ≠ 0 ∧ 0 < (rnode x).1.2.ctr)
            · rw [if_pos hbad] at hlay; cases hlay
            rw [if_neg hbad] at hlay
            simp only [not_or] at hbad
            have hpn : (rnode x).1.1 ≠ [] := by
              cases e : parts (rnode x).1.1 with
              | none => exact absurd e hbad.1
              | some ps => exact path_ne e
            have hgt := sle_of_lt (snot_le.1 hbad.2.1)
            have base : ∀ y ∈ st, y.1 ≤ (rnode x).1.1 := fun y hy => List.le_trans (hk y hy) hgt
            by_cases hl0 : L last = []
            · rw [if_pos hl0] at hlay
              split at hlay
              · cases hlay
                refine ⟨fun y hy => ?_, fun y hy => ?_⟩
                · rcases List.mem_append.1 hy with h | h
                  · exact base y h
                  · rw [List.mem_singleton.1 h]; exact List.le_refl _
                · rcases List.mem_append.1 hy with h | h
                  · exact hne y h
                  · rw [List.mem_singleton.1 h]; exact hpn
              · cases hlay
            · rw [if_neg hl0] at hlay
              have key : ∀ u, st' = modN st u more ++ [((rnode x).1.1, (rnode x).1.2)] → (∀ y ∈ st', y.1 ≤ (rnode x).1.1) ∧ ∀ y ∈ st', y.1 ≠ [] := fun u he => by
                have hm : ∀ y ∈ modN st u more, ∃ z ∈ st, y.1 = z.1 := fun y hy => by
                  unfold modN at hy
                  obtain ⟨z, hz, rfl⟩ := List.mem_map.1 hy
                  exact ⟨z, hz, by split <;> rfl⟩
                rw [he]
                refine ⟨fun y hy => ?_, fun y hy => ?_⟩
                · rcases List.mem_append.1 hy with h | h
                  · obtain ⟨z, hz, e⟩ := hm y h; rw [e]; exact base z hz
                  · rw [List.mem_singleton.1 h]; exact List.le_refl _
                · rcases List.mem_append.1 hy with h | h
                  · obtain ⟨z, hz, e⟩ := hm y h; rw [e]; exact hne z hz
                  · rw [List.mem_singleton.1 h]; exact hpn
              cases hpp : parent (rnode x).1.1 with
              | none => rw [hpp] at hlay; cases hlay
              | some u =>
                rw [hpp] at hlay
                simp only at hlay
                cases hlk : st.lookup u with
                | none => rw [hlk] at hlay; cases hlay
                | some m =>
                  rw [hlk] at hlay
                  simp only at hlay
                  split at hlay
                  · cases hlay
                  · exact key u (Option.some.inj hlay).symm
          refine ih (rnode x).2 st' bs' (S (rblob x).1) tag8 σe ?_ (by omega) he ?_ hkeys.2 (stD.trans (ste.s (by simp))) hAe (rdD.keepC ste (by omega) hr6)
          · rw [hp]; exact hdec
          · rw [hp]; exact hkeys.1
      · rw [if_pos (by simpa [rnode] using he)]
        rw [if_pos (by simpa using he)] at hdec
        rw [← hdec] at hdb
        unfold j27_ztree_Decode
        rw [if_pos (by decide)]
        exact hno hdb tag7 σd stD
end Go.Proofs.YthfpmipeejjogaaGreatDoor.Zt

/- Trees that are the same but for their order go on the same; ZtreeBack, the walk. -/
namespace Go.Proofs.YthfpmipeejjogaaGreatDoor.Zt
open Go Go.Proofs.YthfpmipeejjogaaGreatDoor.SL Go.Proofs.YthfpmipeejjogaaGreatDoor.G Go.Proofs.YthfpmipeejjogaaGreatDoor.Pa
set_option linter.unusedSimpArgs false
set_option linter.unusedVariables false
variable {B : World} {ro σ σ' : AH} {tag tag' : Nat → Nat}

theorem del_up {st : St} (hi : Inv st) {p : Str} : ∀ u n, parent p = some u → st.lookup p = some n → ∃ m, st.lookup u = some m := fun u n hu hn => by
  have hne : p ≠ [47] := fun e => by rw [e, root_parent] at hu; cases hu
  obtain ⟨u', m', e1, e2, _⟩ := hi.up _ n hn hne
  rw [hu] at e1; cases e1
  exact ⟨m', e2⟩
theorem encL_len (x : St) : (∀ p ∈ x, p.1.length ≤ 128 ∧ p.2.data.length ≤ 256 ∧ numsOk p.2 = true) → (encL x).length ≤ 512 * x.length := by
  induction x with
  | nil => intro _; simp [encL]
  | cons p x ih =>
    intro h
    have := ih fun q hq => h q (by simp [hq])
    obtain ⟨h1, h2, h3⟩ := h p (by simp)
    unfold encL at this ⊢
    rw [List.flatMap_cons, List.length_append, List.length_cons]
    unfold numsOk Wi.rightN at h3
    simp only [Bool.and_eq_true, decide_eq_true_eq] at h3
    have l1 := (Wi.vput_len 8 p.1.length (by omega)).2
    have l2 := (Wi.vput_len 8 p.2.data.length (by omega)).2
    have l3 := (Wi.vput_len 8 p.2.ver.toNat (by omega)).2
    have l4 := (Wi.vput_len 8 p.2.ctr.toNat (by omega)).2
    have l5 := (Wi.vput_len 8 p.2.own.toNat (by omega)).2
    have : (encN p).length ≤ 512 := by
      unfold encN Wi.blob
      simp only [List.length_append]
      omega
    omega
theorem encS_len {b : Nat} {st : St} (h : InvB b st) (hb : b ≤ 4398046511103) : (encS st).length ≤ 512 * st.length := by
  have h3 := h.inv3 (by omega)
  rw [encS_eq h3, ← (srt_perm st).length_eq]
  refine encL_len _ fun p hp => ?_
  have hp' := (srt_perm st).mem_iff.1 hp
  obtain ⟨h1, h2⟩ := h.inv.small p hp'
  exact ⟨h1, h2, (h3.nums _ _ ((lookup_iff h.inv.keys (k := p.1) (n := p.2)).2 hp')).1⟩

end Go.Proofs.YthfpmipeejjogaaGreatDoor.Zt

/- Builtin clear of the end of a row. Generic over any program. -/
namespace Go.Proofs.YthfpmipeejjogaaGreatDoor.SL
open Go
set_option linter.unusedVariables false
set_option linter.unusedSimpArgs false
variable {P : Program} {B : World} {ro σ σ' : AH} {tag tag' : Nat → Nat}

theorem zeroCells_list (zv : Value) (n : Nat) : (Builtin.zeroCells #[zv] n).toList = List.replicate n zv := by
  apply List.ext_getElem?
  intro i
  simp only [Builtin.zeroCells, Array.getElem?_toList, Array.getElem?_map, Array.size, List.length_cons, List.length_nil, Nat.mul_one]
  rcases Nat.lt_or_ge i n with h | h
  · rw [List.getElem?_replicate, if_pos h]
    simp [h, Nat.mod_one]
  · rw [List.getElem?_replicate, if_neg (by omega)]
    simp; omega
theorem awp_clearTail {r e t ty : TypeId} {s : Sl} {l : List Value} {m bytes : Nat} {zv : Value} {Q : Value → AH → Prop} (h : Row tag σ r e s l) (hs : Sep ro σ) (ht : P.underlying t = some (.slice e)) (hz : TyIs P e zv 1 bytes) (hzc : zv.cells = #[zv]) (hv : storable zv = true)
    (hm : m ≤ l.length) (hQ : ∀ σ', Step [r] ro tag σ tag σ' → Row tag σ' r e ⟨s.a, m, s.cap⟩ (l.take m) → Q (.tuple #[]) σ') :
    awp P ro (Builtin.clear_ #[t] ty #[Sl.v (⟨cutA s.a m s.cap 1, s.len - m, s.cap - m⟩ : Sl)]) Q σ := by
  have g0 : (#[t] : Array TypeId)[0]? = some t := rfl
  have g1 : (#[Value.slice (cutA s.a m s.cap 1) (s.len - m) (s.cap - m)] : Array Value)[0]? = some (Value.slice (cutA s.a m s.cap 1) (s.len - m) (s.cap - m)) := rfl
  have hl := h.len
  unfold Builtin.clear_
  simp only [Sl.v, bind_def, pure_def, g0, g1]
  rw [awp_underlying ht]
  have done : Q (.tuple #[]) σ ∨ 0 < s.len - m := by
    rcases Nat.eq_zero_or_pos (s.len - m) with h0 | h0
    · refine .inl (hQ σ (Step.refl hs) ?_)
      exact h.take hm
    · exact .inr h0
  rcases Nat.eq_zero_or_pos (s.len - m) with h0 | h0
  · have hd := done.resolve_right (by omega)
    rw [h0]
    cases hc : cutA s.a m s.cap 1 with
    | none => exact hd
    | some a => exact hd
  · rcases h with ⟨rfl, rfl⟩ | ⟨b, cs, ha, htg, hbk, hln, hcp, hle, hg⟩
    · simp at h0
    · have hcut : cutA s.a m s.cap 1 = some ⟨b, m, none⟩ := by
        unfold cutA
        rw [if_neg (by omega), ha]
        simp [add_add]
      rw [hcut]
      obtain ⟨k, hk⟩ : ∃ k, s.len - m = k + 1 := ⟨s.len - m - 1, by omega⟩
      rw [hk]
      simp only
      rw [awp_zero hz, hzc, zeroCells_list]
      refine (awp_bind _ _).2 ?_
      refine awp_storeCells (List.replicate (k + 1) zv) 0 σ (stN_blk (List.replicate (k + 1) zv) cs 0 σ hbk (by simp; omega) (fun v hvm => by rw [(List.mem_replicate.1 hvm).2]; exact hv) fun cs' c1 c2 c3 => ?_)
      refine hQ _ (step_obj hs htg hbk) ?_
      refine .inr ⟨b, cs', ha, htg, upd_same _ _ _, by simp; omega, by rw [c1]; exact hcp, by simp; omega, fun i hi => ?_⟩
      simp at hi
      rw [c2 i (by omega), List.getElem?_take, if_pos (by omega)]
      exact hg i (by omega)
end Go.Proofs.YthfpmipeejjogaaGreatDoor.SL

/- slices.IndexFunc and slices.DeleteFunc over texts; the paths under a path. -/
namespace Go.Proofs.YthfpmipeejjogaaGreatDoor.Zt
open Go Go.Proofs.YthfpmipeejjogaaGreatDoor.SL Go.Proofs.YthfpmipeejjogaaGreatDoor.G Go.Proofs.YthfpmipeejjogaaGreatDoor.Pa
set_option linter.unusedSimpArgs false
set_option linter.unusedVariables false
variable {B : World} {ro σ σ' : AH} {tag tag' : Nat → Nat}
theorem t25' : Tryz.prog.underlying 25 = some (.slice 9) := by kernel_rfl
theorem ty9' : TyIs Tryz.prog 9 (.string ByteArray.empty) 1 16 := TyIs.of (by kernel_rfl)

set_option maxRecDepth 100000 in
theorem delFunc_ok {q : Nat} {s : Sl} {l : List Str} {f : Str → Bool} {fv : Value} {Q : Sl → AH → Prop} (h : Row tag σ q 9 s (l.map Pa.vS)) (hs : SL.Sep ro σ) (hl : l.length < 4611686018427387904)
    (hcall : ∀ k ∈ l, ∀ σ', Step [q] ro tag σ tag σ' → ∀ K : Value → AH → Prop, K (.bool (f k)) σ' → callV Tryz.prog B ro fv [.string (S k)] σ' K)
    (hQ : ∀ s' σ', Step [q] ro tag σ tag σ' → Row tag σ' q 9 s' ((l.filter fun k => !f k).map Pa.vS) → Q s' σ') : c_slices_DeleteFunc_string_string B ro s fv σ Q := by
  refine slices_DeleteFunc_string_string_ok fun _ => ?_
  unfold f_slices_DeleteFunc_string_string
  refine slices_IndexFunc_string_string_ok fun _ => ?_
  unfold f_slices_IndexFunc_string_string
  have hln : s.len = l.length := by rw [h.len, List.length_map]
  -- the second loop
  have second : ∀ (m j w : Nat) (cur : List Str) (σ1 : AH), j + m = l.length → w ≤ j → cur.length = l.length → cur.take w = (l.take j).filter (fun k => !f k) → (∀ i, j ≤ i → cur[i]? = l[i]?) → Step [q] ro tag σ tag σ1 → Row tag σ1 q 9 s (cur.map Pa.vS) →
      lfpD (l4_slices_DeleteFunc_string_string B ro s fv Q) ((w : Int), (j : Int)) σ1 := by
    intro m
    induction m with
    | zero =>
      intro j w cur σ1 hj hw hcl htk hrest st1 r1
      refine lfpD.intro ?_
      unfold l4_slices_DeleteFunc_string_string
      simp only
      rw [if_neg (by omega)]
      unfold j2_slices_DeleteFunc_string_string
      have hcap := r1.capAt
      rw [List.length_map] at hcap
      refine ⟨⟨trivial, by omega, by simp only [cutHi]; omega⟩, ?_⟩
      rw [Int.toNat_natCast]
      refine awp_clearTail r1 st1.sep t25' ty9' rfl rfl (by simp; omega) fun σ2 st2 r2 => ?_
      refine ⟨rfl, ⟨⟨by omega, by omega⟩, trivial⟩, ?_⟩
      rw [cutA_zero, Nat.sub_zero, Nat.sub_zero]
      refine hQ _ σ2 (st1.trans st2) ?_
      rw [← List.map_take, htk, List.take_of_length_le (by omega)] at r2
      exact r2
    | succ m ih =>
      intro j w cur σ1 hj hw hcl htk hrest st1 r1
      have hjl : j < l.length := by omega
      have hjc : j < cur.length := by omega
      have hcj : cur[j] = l[j] := by
        have := hrest j (Nat.le_refl _)
        rw [List.getElem?_eq_getElem hjc, List.getElem?_eq_getElem hjl] at this
        exact Option.some.inj this
      obtain ⟨p, hp, _, hget⟩ := Row.sget r1 st1.sep hjc
      refine lfpD.intro ?_
      unfold l4_slices_DeleteFunc_string_string
      simp only
      rw [if_pos (by omega)]
      refine ⟨p, hp, by omega, by omega, S cur[j], by rw [Int.toNat_natCast]; exact hget j hjc, ?_⟩
      rw [hcj]
      refine hcall _ (List.getElem_mem hjl) σ1 st1 _ ⟨f l[j], rfl, ?_⟩
      have etk : (l.take (j + 1)).filter (fun k => !f k) = (l.take j).filter (fun k => !f k) ++ if f l[j] then [] else [l[j]] := by
        rw [List.take_add_one, List.getElem?_eq_getElem hjl, List.filter_append]
        simp only [Option.toList_some, List.filter_cons, List.filter_nil]
        cases f l[j] <;> rfl
      cases hf : f l[j] with
      | true =>
        rw [if_neg (by simp)]
        unfold j7_slices_DeleteFunc_string_string
        rw [Pa.inc j (by omega)]
        exact ih (j + 1) w cur σ1 (by omega) (by omega) hcl (by rw [etk, hf]; simpa using htk) (fun i hi => hrest i (by omega)) st1 r1
      | false =>
        rw [if_pos (by simp)]
        refine ⟨p, hp, by omega, by omega, ?_⟩
        rw [Int.toNat_natCast]
        refine r1.st (i := w) st1.sep hp (by simp; omega) rfl fun σ2 st2 r2 => ?_
        unfold j7_slices_DeleteFunc_string_string
        rw [Pa.inc j (by omega), Pa.inc w (by omega)]
        refine ih (j + 1) (w + 1) (cur.set w l[j]) σ2 (by omega) (by omega) (by simpa using hcl) ?_ (fun i hi => ?_) (st1.trans st2) (by rw [List.map_set]; exact r2)
        · rw [etk, hf, List.take_add_one, List.take_set_of_le (Nat.le_refl _), htk, List.getElem?_set_self (by omega)]
          rfl
        · rw [List.getElem?_set_ne (by omega)]; exact hrest i (by omega)
  suffices ∀ m j, j + m = l.length → (∀ k ∈ l.take j, f k = false) → lfpD (l2_slices_IndexFunc_string_string B ro s fv fun x10 σ => if x10 = (-1) then Q s σ else lfpD (l4_slices_DeleteFunc_string_string B ro s fv Q) (x10, IntKind.i64.wrap (x10 + 1)) σ) (j : Int) σ from
    this _ 0 (Nat.zero_add _) (by simp)
  intro m
  induction m with
  | zero =>
    intro j hj hall
    refine lfpD.intro ?_
    unfold l2_slices_IndexFunc_string_string
    rw [if_neg (by omega)]
    unfold j1_slices_IndexFunc_string_string
    show (if (-1 : Int) = -1 then _ else _)
    rw [if_pos rfl]
    rw [List.take_of_length_le (by omega)] at hall
    refine hQ s σ (Step.refl hs) ?_
    rw [List.filter_eq_self.2 fun k hk => by rw [hall k hk]; rfl]
    exact h
  | succ m ih =>
    intro j hj hall
    have hjl : j < l.length := by omega
    obtain ⟨p, hpp, _, hget⟩ := Row.sget h hs hjl
    refine lfpD.intro ?_
    unfold l2_slices_IndexFunc_string_string
    rw [if_pos (by omega)]
    refine ⟨p, hpp, by omega, by omega, _, hget j hjl, ?_⟩
    refine hcall _ (List.getElem_mem hjl) σ (Step.refl hs) _ ⟨f l[j], rfl, ?_⟩
    cases hf : f l[j] with
    | true =>
      rw [if_pos rfl]
      show (if ((j : Int)) = -1 then _ else _)
      rw [if_neg (by omega), Pa.inc j (by omega)]
      have e1 : (l.take j).filter (fun k => !f k) = l.take j := List.filter_eq_self.2 fun k hk => by rw [hall k hk]; rfl
      refine second m (j + 1) j l σ (by omega) (by omega) rfl ?_ (fun _ _ => rfl) (Step.refl hs) h
      rw [List.take_add_one, List.getElem?_eq_getElem hjl, List.filter_append, e1]
      simp [hf]
    | false =>
      rw [if_neg (by decide), Pa.inc j (by omega)]
      refine ih (j + 1) (by omega) fun k hk => ?_
      rw [List.take_add_one, List.getElem?_eq_getElem hjl] at hk
      rcases List.mem_append.1 hk with h | h
      · exact hall k h
      · have h' : k = l[j] := by simpa using h
        rw [h']; exact hf

/-- does a path stand under this one? -/
def isUnder (u k : Str) : Bool := match under u k with
  | some b => b
  | none => false
set_option maxRecDepth 100000 in
theorem pathsAny_ok {r T M q : Nat} {bs : List Nat} {st : St} {u : ByteArray} {Q : Sl → Int → AH → Prop} (g : Glob ro) (hr : r < 64) (hr0 : r ≠ 0) (hq0 : q ≠ 0) (h : TreeAt tag σ r T M bs st) (hl : ∀ p ∈ st, ∃ ps, parts p.1 = some ps) (hn : st.length ≤ 4398046511104)
    (hbad : parts (L u) = none → ∀ tag' σ', (∀ R, Step R ro tag σ tag' σ') → Q ⟨none, 0, 0⟩ 20 σ')
    (hQ : ∀ ps, parts (L u) = some ps → ∀ (s : Sl) (tag' : Nat → Nat) (σ' : AH) (ks : List Str), Step [q] ro tag σ tag' σ' → ks.Perm (st.map (·.1)) → ks.Pairwise (· ≤ ·) → Row tag' σ' q 9 s ((ks.filter fun k => isUnder (L u) k).map Pa.vS) → Q s 0 σ') : c_ztree_Tree_Paths B ro (some ⟨T, 0, none⟩) u σ Q := by
  refine ztree_Tree_Paths_ok fun hs => ?_
  unfold f_ztree_Tree_Paths
  refine nw_cells (tag := tag) 0 hs fun x tag1 σ1 st1 r1 => ?_
  have hA := h.keep (st1 []) (by simp)
  refine ⟨_, Row.cell1 r1 (st1 []).sep, ?_⟩
  refine check_ok g ?_
  by_cases hc : Pa.chk (L u) = 0
  · rw [if_neg (by simpa using hc)]
    obtain ⟨ps, hps⟩ := chk_zero.1 hc
    have h128 : ∀ p ∈ st, p.1.length ≤ 128 := fun p hp => by
      obtain ⟨ps, e⟩ := hl p hp
      obtain ⟨e1, e2⟩ := parts_iff.1 e
      rw [e1]; exact e2.len
    refine paths_ok (q := q) hA h128 hn fun s tag2 σ2 ks st2 hp hsrt hr2 => ?_
    have hkl : ks.length = st.length := by rw [hp.length_eq, List.length_map]
    have r12 := r1.keep (st2 []) (by simp)
    refine delFunc_ok (f := fun k => !isUnder (L u) k) hr2 (st2 []).sep (by omega) (fun k hk σ3 st3 K hK => ?_) fun s' σ3 st3 r3 => ?_
    · have hx := Row.cell1 (r12.keep st3 (by simpa using fun e => hq0 e.symm)) st3.sep
      refine call58 ?_
      refine ztree_Tree_Paths_c1_ok fun _ => ?_
      unfold f_ztree_Tree_Paths_c1
      refine ⟨_, hx, ?_⟩
      obtain ⟨y, hy, e⟩ := List.mem_map.1 (hp.mem_iff.1 hk)
      obtain ⟨qs, hqs⟩ := hl y hy
      rw [e] at hqs
      have hu : ∃ b, under (L u) (L (S k)) = some b := by
        unfold under
        rw [hps, L_S, hqs]
        exact ⟨_, rfl⟩
      obtain ⟨b, hb⟩ := hu
      refine under_ok g (fun hnone => by rw [hb] at hnone; cases hnone) (fun b' hb' => ?_)
      rw [L_S] at hb'
      unfold isUnder at hK
      rw [hb'] at hK
      exact hK
    · refine hQ ps hps s' tag2 σ3 ks ((st1 _).trans ((st2 _).trans st3)) hp hsrt ?_
      simpa using r3
  · rw [if_pos (by simpa using hc)]
    have e : parts (L u) = none := by
      cases h : parts (L u) with
      | none => rfl
      | some ps => exact absurd (chk_zero.2 ⟨ps, h⟩) hc
    have : Pa.chk (L u) = 20 := by unfold Pa.chk; rw [e]; rfl
    rw [this]
    exact hbad e tag1 σ1 st1
end Go.Proofs.YthfpmipeejjogaaGreatDoor.Zt

/- What homes hold: the pure part. -/
namespace Go.Proofs.YthfpmipeejjogaaGreatDoor.Zt
open Go Go.Proofs.YthfpmipeejjogaaGreatDoor.SL Go.Proofs.YthfpmipeejjogaaGreatDoor.Pa
set_option linter.unusedSimpArgs false
set_option linter.unusedVariables false

def homeOf (p : Str) : Option Str := match parts p with
  | some (x :: _) => some x
  | _ => none
def uw (h : Str) (p : Str × Nd) : Nat := if homeOf p.1 = some h then p.1.length + p.2.data.length else 0
/-- nodes and bytes of a home -/
def usage (st : St) (h : Str) : Nat × Nat := (st.countP fun p => decide (homeOf p.1 = some h), (st.map (uw h)).sum)
theorem sum_perm {a b : List Nat} (h : a.Perm b) : a.sum = b.sum := by
  induction h with
  | nil => rfl
  | cons x _ ih => simp [ih]
  | swap x y l => simp; omega
  | trans _ _ h1 h2 => exact h1.trans h2
theorem usage_perm {a b : St} (h : a.Perm b) (k : Str) : usage a k = usage b k := by
  unfold usage
  rw [h.countP_eq, sum_perm (h.map (uw k))]
theorem homeOf_ne {p h : Str} (hp : homeOf p = some h) : h ≠ [] := by
  unfold homeOf at hp
  split at hp
  · rename_i x r e
    cases hp
    obtain ⟨_, hg⟩ := parts_iff.1 e
    have := (name_len (hg.ok h (by simp))).1
    intro he; rw [he] at this; simp at this
  · cases hp
theorem homeOf_under {k h : Str} (hk : homeOf k = some h) : parts (47 :: h) = some [h] ∧ isUnder (47 :: h) k = true := by
  unfold homeOf at hk
  split at hk
  · rename_i x r e
    cases hk
    obtain ⟨hl, hg⟩ := parts_iff.1 e
    have hn := hg.ok h (by simp)
    have hnl := name_len hn
    have hp1 : parts (47 :: h) = some [h] := parts_iff.2 ⟨by simp [mk], ⟨by simp, fun y hy => by rw [List.mem_singleton.1 hy]; exact hn, by simp [mk]; omega⟩⟩
    refine ⟨hp1, ?_⟩
    unfold isUnder under
    rw [hp1, e]
    simp
  · cases hk
/-- a path's home is the first name -/
theorem homeOf_parts {k : Str} {ps : List Str} (h : parts k = some ps) : homeOf k = ps.head? := by
  unfold homeOf
  rw [h]
  cases ps <;> rfl
def usageK (st : St) (h : Str) (ks : List Str) : Nat × Nat :=
  (ks.countP fun k => decide (homeOf k = some h), (ks.map fun k => if homeOf k = some h then k.length + (match st.lookup k with | some n => n.data.length | none => 0) else 0).sum)
theorem usageK_under (st : St) (h : Str) (ks : List Str) : usageK st h (ks.filter fun k => isUnder (47 :: h) k) = usageK st h ks := by
  unfold usageK
  congr 1
  · rw [List.countP_filter]
    refine List.countP_congr fun k _ => ?_
    simp only [Bool.and_eq_true, decide_eq_true_eq]
    exact ⟨fun h => h.1, fun h => ⟨h, (homeOf_under h).2⟩⟩
  · induction ks with
    | nil => rfl
    | cons k ks ih =>
      rw [List.filter_cons]
      by_cases hk : homeOf k = some h
      · rw [if_pos (homeOf_under hk).2, List.map_cons, List.map_cons, List.sum_cons, List.sum_cons, ih]
      · split
        · rw [List.map_cons, List.map_cons, List.sum_cons, List.sum_cons, ih]
        · rw [List.map_cons, List.sum_cons, if_neg hk, ih, Nat.zero_add]
theorem usageK_none (st : St) (h : Str) (ks : List Str) (hn : parts (47 :: h) ≠ some [h]) : usageK st h ks = (0, 0) := by
  have hno : ∀ k, homeOf k ≠ some h := fun k hk => hn (homeOf_under hk).1
  unfold usageK
  congr 1
  · rw [List.countP_eq_zero]
    intro k _
    simpa using hno k
  · induction ks with
    | nil => rfl
    | cons k ks ih => rw [List.map_cons, List.sum_cons, if_neg (hno k), ih]
theorem usageK_srt {st : St} (hk : (st.map (·.1)).Nodup) (h : Str) : usageK st h ((srt st).map (·.1)) = usage st h := by
  rw [← usage_perm (srt_perm st) h]
  have hmem : ∀ p ∈ srt st, st.lookup p.1 = some p.2 := fun p hp => (lookup_iff hk).2 ((srt_perm st).mem_iff.1 hp)
  unfold usageK usage
  rw [List.countP_map, List.map_map]
  congr 1
  refine congrArg List.sum (List.map_congr_left fun p hp => ?_)
  simp only [Function.comp_apply, uw]
  rw [hmem p hp]
theorem usageK_le (st : St) (h : Str) (ks : List Str) (hs : ∀ k ∈ ks, k.length ≤ 128) (hd : ∀ k n, st.lookup k = some n → n.data.length ≤ 256) : (usageK st h ks).1 ≤ ks.length ∧ (usageK st h ks).2 ≤ 384 * ks.length := by
  refine ⟨List.countP_le_length, ?_⟩
  unfold usageK
  simp only
  induction ks with
  | nil => simp
  | cons k ks ih =>
    have := ih fun k hk => hs k (by simp [hk])
    have h1 := hs k (by simp)
    rw [List.map_cons, List.sum_cons, List.length_cons]
    have h2 : (match st.lookup k with | some n => n.data.length | none => 0) ≤ 256 := by
      cases e : st.lookup k with
      | none => simp
      | some n => exact hd k n e
    split <;> omega
theorem usageK_app (st : St) (h : Str) (a : List Str) (k : Str) : usageK st h (a ++ [k]) = if homeOf k = some h then ((usageK st h a).1 + 1, (usageK st h a).2 + (k.length + (match st.lookup k with | some n => n.data.length | none => 0))) else usageK st h a := by
  unfold usageK
  rw [List.countP_append, List.map_append, List.sum_append]
  by_cases hk : homeOf k = some h <;> simp [hk]
/-- of several homes -/
def usages (st : St) (hs : List Str) : Nat × Nat := hs.foldl (fun a h => (a.1 + (usage st h).1, a.2 + (usage st h).2)) (0, 0)
theorem usage_le {st : St} (hi : Inv st) (h : Str) : (usage st h).1 ≤ st.length ∧ (usage st h).2 ≤ 384 * st.length := by
  have := usageK_le st h ((srt st).map (·.1)) (fun k hk => by
    obtain ⟨p, hp, rfl⟩ := List.mem_map.1 hk
    exact (hi.small p ((srt_perm st).mem_iff.1 hp)).1) hi.data
  rw [usageK_srt hi.keys, List.length_map, (srt_perm st).length_eq] at this
  exact this
end Go.Proofs.YthfpmipeejjogaaGreatDoor.Zt

/- One change of several, the pure part. -/
namespace Go.Proofs.YthfpmipeejjogaaGreatDoor.Zt
open Go Go.Proofs.YthfpmipeejjogaaGreatDoor.SL Go.Proofs.YthfpmipeejjogaaGreatDoor.Pa
set_option linter.unusedSimpArgs false
set_option linter.unusedVariables false

structure MOp where
  kind : Int
  path : Str
  data : Str
  ver : Int
  eph : Bool
  seq : Bool
structure Work where
  st : St
  res : List (Str × Int)
  eff : List (Int × Str)
def withinE (home : Str) (o : MOp) : Int :=
  if o.kind < 1 ∨ 4 < o.kind then 80
  else match parts o.path with
    | none => 20
    | some ps => if ps.head? ≠ some home ∨ (ps.length = 1 ∧ o.kind ≤ 2) then 82 else 0
def chkE (st : St) (p : Str) (v : Int) : Int := match st.lookup p with
  | none => 70
  | some n => if v ≠ -1 ∧ v ≠ n.ver then 72 else 0
/-- the change itself: the tree, the path, the version, the error -/
def core (owner : Int) (st : St) (o : MOp) : St × Str × Int × Int :=
  if o.kind = 1 then ((create st o.path o.data (if o.eph then owner else 0) o.seq).1, (create st o.path o.data (if o.eph then owner else 0) o.seq).2.1, 0, (create st o.path o.data (if o.eph then owner else 0) o.seq).2.2)
  else if o.kind = 2 then ((remove st o.path o.ver).1, [], 0, (remove st o.path o.ver).2)
  else if o.kind = 3 then ((setD st o.path o.data o.ver).1, [], (setD st o.path o.data o.ver).2.1, (setD st o.path o.data o.ver).2.2)
  else (st, [], 0, chkE st o.path o.ver)
def overE (st : St) (home : Str) (qn qb : Int) (kind : Int) : Bool := (decide (kind = 1) || decide (kind = 3)) && (decide (qn < ((usage st home).1 : Nat)) || decide (qb < ((usage st home).2 : Nat)))
def doE (home : Str) (owner qn qb : Int) (w : Work) (o : MOp) : Int × Work :=
  if withinE home o ≠ 0 then (withinE home o, w)
  else if (core owner w.st o).2.2.2 ≠ 0 then ((core owner w.st o).2.2.2, { w with st := (core owner w.st o).1 })
  else if overE (core owner w.st o).1 home qn qb o.kind then (81, { w with st := (core owner w.st o).1 })
  else (0, ⟨(core owner w.st o).1, w.res ++ [((core owner w.st o).2.1, (core owner w.st o).2.2.1)], if o.kind = 4 then w.eff else w.eff ++ [(o.kind, if o.kind = 1 then (core owner w.st o).2.1 else o.path)]⟩)
theorem core_inv {b : Nat} {owner : Int} {st : St} {o : MOp} (h : InvB b st) (hb : b ≤ 4398046511103) : InvB (b + 1) (core owner st o).1 := by
  unfold core
  split
  · exact invB_create h hb
  · split
    · exact invB_remove h hb
    · split
      · exact invB_set h hb
      · exact h.mono (by omega)
theorem doE_inv {b : Nat} {home : Str} {owner qn qb : Int} {w : Work} {o : MOp} (h : InvB b w.st) (hb : b ≤ 4398046511103) : InvB (b + 1) (doE home owner qn qb w o).2.st := by
  unfold doE
  split
  · exact h.mono (by omega)
  · split
    · exact core_inv h hb
    · split
      · exact core_inv h hb
      · exact core_inv h hb
theorem doE_len {home : Str} {owner qn qb : Int} {w : Work} {o : MOp} : (doE home owner qn qb w o).2.res.length ≤ w.res.length + 1 ∧ (doE home owner qn qb w o).2.eff.length ≤ w.eff.length + 1 := by
  unfold doE
  split
  · exact ⟨by simp, by simp⟩
  · split
    · exact ⟨by simp, by simp⟩
    · split
      · exact ⟨by simp, by simp⟩
      · refine ⟨by simp, ?_⟩
        simp only
        split <;> simp
end Go.Proofs.YthfpmipeejjogaaGreatDoor.Zt
