/- The tree, the walk: its paths in order, its size. -/
import Derived.Test.YthfpmipeejjogaaGreatDoorZtD
import Derived.Test.YthfpmipeejjogaaGreatDoorShelf
namespace Go.Proofs.YthfpmipeejjogaaGreatDoor.Zt
open Go Go.Proofs.YthfpmipeejjogaaGreatDoor.SL Go.Proofs.YthfpmipeejjogaaGreatDoor.G Go.Proofs.YthfpmipeejjogaaGreatDoor.Pa Go.Maps Go.Sort Go.Shelf Go.RowKit
set_option linter.unusedSimpArgs false
set_option linter.unusedVariables false
variable {B : World} {ro σ σ' : AH} {tag tag' : Nat → Nat}

theorem kv_keys : ∀ (st : St) (bs : List Nat), bs.length = st.length → (kv st bs).map (·.1) = st.map (·.1) := by
  intro st
  induction st with
  | nil => intro bs h; cases bs <;> rfl
  | cons p st ih =>
    intro bs h
    cases bs with
    | nil => simp at h
    | cons b bs => obtain ⟨p, n⟩ := p; unfold kv; rw [List.map_cons, ih bs (by simpa using h)]; rfl
theorem kv_length (st : St) (bs : List Nat) (h : bs.length = st.length) : (kv st bs).length = st.length := by
  have := congrArg List.length (kv_keys st bs h)
  simpa using this

abbrev RT : Value → Option (DataW Unit × List MemPlace) := fun _ => some (.nil, [])
/-- a map in memory, as the shelf's contracts want it -/
theorem owns {w : World} {b c : Nat} {m : KV} (hm : MapIs tag σ c b m) (hw : Sees ro σ w) (hs : SL.Sep ro σ) (hnd : (m.map (·.1)).Nodup) (hl : ∀ p ∈ m, p.1.length ≤ 128) (hn : m.length ≤ 4398046511104) :
    ∃ D : DataW Unit, w.ownsMap Tryz.prog 9 RT b m.length D ∧ Maps.size D = m.length ∧ (strKeys D).Perm (m.map (·.1)) := by
  obtain ⟨es, clock, hb, he, hbn⟩ := hm.obj
  have hwb := hw b _ (by unfold SL.rd; rw [hs b _ hb]; exact hb)
  have hsz : es.size = m.length := by have := congrArg List.length he; simpa using this
  have hkey : ∀ (i : Nat) (h1 : i < es.toList.length), ∃ h2 : i < m.length, (es.toList[i]).key = .string (S m[i].1) := fun i h1 => by
    have h2 : i < m.length := by rw [← hsz]; simpa using h1
    refine ⟨h2, ?_⟩
    have h := congrArg (·[i]?) he
    simp only [List.getElem?_map, List.getElem?_eq_getElem h1, List.getElem?_eq_getElem h2, Option.map_some] at h
    exact congrArg Prod.fst (Option.some.inj h)
  have hko : ∀ (i : Nat) (h1 : i < es.toList.length) (h2 : i < m.length), WideElems.rd Tryz.prog 9 RT es.toList[i] = some (.string m[i].1, .nil) := fun i h1 h2 => by
    obtain ⟨_, hk⟩ := hkey i h1
    have hlen := hl _ (List.getElem_mem h2)
    unfold WideElems.rd
    rw [hk]
    have : keyOf Tryz.prog 9 (.string (S m[i].1)) = some (.string m[i].1) := by
      unfold keyOf
      rw [u9]
      show mapKey Tryz.prog 9 (.string (S m[i].1)) = _
      unfold mapKey
      rw [u9]
      show (if (S m[i].1).size ≤ maxLen then _ else _) = _
      rw [if_pos (by simp only [S_size, maxLen]; omega)]; rfl
    rw [this]; rfl
  refine ⟨.map ((es.toList.map (WideElems.rg Tryz.prog 9 RT)).foldr DataW.insert []), ⟨es, clock, hwb, ⟨by rw [hsz]; simp only [maxLen]; omega, ⟨hbn.lt, hbn.nd, ?_⟩, ?_⟩, by omega, rfl⟩, ?_, ?_⟩
  · have : es.toList.map (·.key) = (m.map (·.1)).map fun k => Value.string (S k) := by
      apply List.ext_getElem
      · simp [hsz]
      · intro i h1 h2
        simp only [List.getElem_map]
        obtain ⟨_, h⟩ := hkey i (by simpa using h1)
        exact h
    rw [this]
    refine List.Pairwise.map _ (fun a b hab e => hab ?_) hnd
    simpa [S_inj] using e
  · intro x hx
    obtain ⟨i, hi, rfl⟩ := List.getElem_of_mem hx
    obtain ⟨h2, _⟩ := hkey i hi
    exact ⟨_, hko i hi h2⟩
  · show ((es.toList.map (WideElems.rg Tryz.prog 9 RT)).foldr DataW.insert []).length = m.length
    rw [DataW.length_sorted]; simp [hsz]
  · show (((es.toList.map (WideElems.rg Tryz.prog 9 RT)).foldr DataW.insert []).map fun p => strOf p.1).Perm _
    refine ((WideShapes.sorted_perm _).map _).trans ?_
    rw [List.map_map]
    have : es.toList.map ((fun p : Lit × DataW Unit => strOf p.1) ∘ WideElems.rg Tryz.prog 9 RT) = m.map (·.1) := by
      apply List.ext_getElem
      · simp [hsz]
      · intro i h1 h2
        simp only [List.getElem_map, Function.comp]
        have h3 : i < es.toList.length := by simpa using h1
        obtain ⟨h4, _⟩ := hkey i h3
        unfold WideElems.rg
        rw [hko i h3 h4]; rfl
    rw [this]

theorem keys_ok {M : Nat} {Q : Value → AH → Prop} (hQ : ∀ gb tag' σ', (∀ R, Step R ro tag σ tag' σ') → Row tag' σ' 0 126 ⟨some ⟨gb, 0, none⟩, 1, 1⟩ [.map (some M)] → Q (.func (.func 132) #[] #[.pointer (some ⟨gb, 0, none⟩)]) σ') :
    c_maps_Keys_ztree_node B ro (some M) σ Q := by
  refine ACalls.of_calls fun w hw hsep => ?_
  refine (callsIn_wide.1 (Tryz.maps_Keys_109 (some M) w)).mono ?_
  rintro e w' ⟨he, rfl⟩
  obtain ⟨N, tag', hN, hst, hrow⟩ := new_row (tag := tag) (w' := w.alloc (.cells #[.map (some M)] 126)) 0 hw hsep (Nat.le_refl w.heap.size) (heap_alloc_new w _)
  exact ⟨_, N, he, (Below.refl _ w).alloc (Nat.le_refl _) _, hN, _, rfl, hQ _ tag' _ hst (hrow _ _ _ rfl rfl (Nat.le_refl _) rfl)⟩

theorem sorted_ok {gb b c : Nat} {m : KV} {Q : Sl → AH → Prop} (r : Nat) (hg : Row tag σ 0 126 ⟨some ⟨gb, 0, none⟩, 1, 1⟩ [.map (some b)]) (hm : MapIs tag σ c b m) (hnd : (m.map (·.1)).Nodup) (hl : ∀ p ∈ m, p.1.length ≤ 128) (hn : m.length ≤ 4398046511104)
    (hQ : ∀ (s : Sl) (tag' : Nat → Nat) (σ' : AH) (ks : List Str), (∀ R, Step R ro tag σ tag' σ') → ks.Perm (m.map (·.1)) → ks.Pairwise (· ≤ ·) → Row tag' σ' r 9 s (ks.map Pa.vS) → Q s σ') : c_slices_Sorted_string B ro (.func (.func 132) #[] #[.pointer (some ⟨gb, 0, none⟩)]) σ Q := by
  refine ACalls.of_calls fun w hw hsep => ?_
  obtain ⟨D, hown, hsz, hperm⟩ := owns hm hw hsep hnd hl hn
  have hcell : w.cell? ⟨gb, 0, none⟩ = some (.map (some b)) := by
    have h1 := Row.cell1 hg hsep
    unfold acell at h1
    rw [cell?_eq]
    cases hr : SL.rd ro σ gb with
    | none => simp only at h1; rw [hr] at h1; cases h1
    | some o => simp only at h1; rw [hw gb o hr]; rw [hr] at h1; exact h1
  have hlt : gb < w.heap.size := by
    rw [cell?_eq] at hcell
    cases hh : w.heap[gb]? with
    | none => simp only at hcell; rw [hh] at hcell; cases hcell
    | some o => exact lt_of_block hh
  have hseq : SeqGives Fence.wide 2 Tryz.prog 132 #[.pointer (some ⟨gb, 0, none⟩)] encStr (fun ss => ss.Perm (strKeys D)) (Maps.size D) w :=
    AnyZ.keys_gives (ρ := Tryz.keys109_ren) { Tryz.keys109 with } Fence.wide _ trivial rfl (by omega) gb b m.length D w hlt hcell hown
  have hsort := AnyZ.sorted_in Tryz.sorted108 Fence.wide 5 trivial trivial trivial trivial rfl (by omega) (Tryz.sorts108 _) (enters_of Tryz.func131 (by kernel_rfl) rfl) 132 #[.pointer (some ⟨gb, 0, none⟩)] trivial (enters_of Tryz.func132 (by kernel_rfl) rfl) _ _ (by rw [hsz]; simp only [maxLen]; omega) (by rw [hsz]; omega) _ hseq
  refine (callsIn_wide.1 hsort).mono ?_
  rintro e w' ⟨v, ss, he, hS, hrow, hnil, hb⟩
  have hpair : (ss.mergeSort (fun x y => decide (x ≤ y))).Pairwise (· ≤ ·) := by
    have := List.pairwise_mergeSort (le := fun x y : List UInt8 => decide (x ≤ y)) (fun a b c h1 h2 => by simp at *; exact List.le_trans h1 h2) (fun a b => by simp; exact List.le_total a b) ss
    simpa using this
  have hpm : (ss.mergeSort (fun x y => decide (x ≤ y))).Perm (m.map (·.1)) := (List.mergeSort_perm _ _).trans (hS.trans hperm)
  have henc : ∀ l : List (List UInt8), l.map encStr = l.map Pa.vS := fun l => rfl
  rcases hrow with ⟨hlen, ⟨rfl, h0⟩ | ⟨g, cap, cur, rfl, hbase, hgb, r1, r2, r3, r4⟩⟩
  · have h0' : ss = [] := List.eq_nil_of_length_eq_zero h0
    subst h0'
    refine ⟨_, fun _ => none, he, hb, News.none _ _, ⟨none, 0, 0⟩, rfl, ?_⟩
    rw [join_none_right]
    exact hQ _ tag σ _ (fun _ => Step.refl hsep) hpm hpair (by simpa using Row.nil r 9)
  · obtain ⟨N, tag', hN, hst, hrow⟩ := new_row (tag := tag) r hw hsep hbase hgb
    refine ⟨_, N, he, hb, hN, ⟨some ⟨g, 0, none⟩, ss.length, cap⟩, rfl, ?_⟩
    refine hQ _ tag' _ _ hst hpm hpair (hrow _ _ _ (by simp) (by rw [r3, Nat.mul_one]) r1 ?_)
    rw [Nat.mul_one] at r4
    rw [r4]; rfl

set_option maxRecDepth 100000 in
theorem paths_ok {r T M q : Nat} {bs : List Nat} {st : St} {Q : Sl → AH → Prop} (h : TreeAt tag σ r T M bs st) (hl : ∀ p ∈ st, p.1.length ≤ 128) (hn : st.length ≤ 4398046511104)
    (hQ : ∀ (s : Sl) (tag' : Nat → Nat) (σ' : AH) (ks : List Str), (∀ R, Step R ro tag σ tag' σ') → ks.Perm (st.map (·.1)) → ks.Pairwise (· ≤ ·) → Row tag' σ' q 9 s (ks.map Pa.vS) → Q s σ') : c_ztree_Tree_paths B ro (some ⟨T, 0, none⟩) σ Q := by
  refine ztree_Tree_paths_ok fun hs => ?_
  unfold f_ztree_Tree_paths
  refine ⟨_, rfl, _, Row.cell1 h.cell hs, ?_⟩
  refine keys_ok (tag := tag) fun gb tag1 σ1 st1 r1 => ?_
  have hk := kv_keys st bs h.len
  refine sorted_ok q r1 (h.map.keep (st1 []) (by simp)) (by rw [hk]; exact h.keys) (fun p hp => ?_) (by rw [kv_length _ _ h.len]; exact hn) fun s tag' σ' ks st2 hp hs' hr => ?_
  · have : p.1 ∈ (kv st bs).map (·.1) := List.mem_map.2 ⟨p, hp, rfl⟩
    rw [hk] at this
    obtain ⟨x, hx, e⟩ := List.mem_map.1 this
    rw [← e]; exact hl x hx
  · rw [hk] at hp
    exact hQ s tag' σ' ks (fun R => (st1 R).trans (st2 R)) hp hs' hr
end Go.Proofs.YthfpmipeejjogaaGreatDoor.Zt
