/- Maps whose keys are strings: what look-ups, stores and deletes do to the list of pairs that a map holds. Generic over any program. -/
import Derived.Test.YthfpmipeejjogaaGreatDoorStr
namespace Go.Proofs.YthfpmipeejjogaaGreatDoor.SL
open Go
set_option linter.unusedSimpArgs false
set_option linter.unusedVariables false
variable {P : Program} {B : World} {ro σ σ' : AH} {tag tag' : Nat → Nat}

abbrev KV := List (Str × Value)
def mput : KV → Str → Value → KV
  | [], k, v => [(k, v)]
  | (k', v') :: r, k, v => if k = k' then (k, v) :: r else (k', v') :: mput r k v
def mdel : KV → Str → KV
  | [], _ => []
  | (k', v') :: r, k => if k = k' then r else (k', v') :: mdel r k
def entV (e : MapEntry) : Value × Value := (e.key, e.val)
def pairV (p : Str × Value) : Value × Value := (.string (S p.1), p.2)
structure Born (es : Array MapEntry) (clock : Nat) : Prop where
  lt : ∀ e ∈ es.toList, e.born < clock
  nd : (es.toList.map (·.born)).Nodup
structure MapIs (tag : Nat → Nat) (σ : AH) (r b : Nat) (m : KV) : Prop where
  tg : tag b = r
  obj : ∃ es clock, σ b = some (.map es clock) ∧ es.toList.map entV = m.map pairV ∧ Born es clock

theorem MapIs.keep {R : List Nat} {r b : Nat} {m : KV} (h : MapIs tag σ r b m) (k : Step R ro tag σ tag' σ') (hr : r ∉ R) : MapIs tag' σ' r b m := by
  obtain ⟨es, c, hb, hx⟩ := h.obj
  obtain ⟨t, e⟩ := k.keep b _ hb (by rw [h.tg]; exact hr)
  exact ⟨t.trans h.tg, es, c, e, hx⟩

theorem bbeq (a b : ByteArray) : (a == b) = decide (a = b) := by
  cases a with | mk a => cases b with | mk b =>
  show (a == b) = _
  rw [Bool.eq_iff_iff]; simp
theorem findNow_str (k : Str) : ∀ (l : List MapEntry) (m : KV) (i : Nat), l.map entV = m.map pairV →
    (m.lookup k = none ∧ mdel m k = m ∧ (∀ v, mput m k v = m ++ [(k, v)]) ∧ Instr.findNow .string (.string (S k)) l i = some none) ∨
    ∃ j v, j < l.length ∧ m.lookup k = some v ∧ Instr.findNow .string (.string (S k)) l i = some (some (i + j, v)) ∧ m[j]? = some (k, v) ∧ (∀ v', mput m k v' = m.set j (k, v')) ∧ mdel m k = m.eraseIdx j := by
  intro l
  induction l with
  | nil =>
    intro m i h
    have : m = [] := by simpa using h.symm
    subst this
    exact .inl ⟨rfl, rfl, fun _ => rfl, rfl⟩
  | cons e l ih =>
    intro m i h
    cases m with
    | nil => simp at h
    | cons p m =>
      simp only [List.map_cons, List.cons.injEq] at h
      obtain ⟨h1, h2⟩ := h
      have hk : e.key = .string (S p.1) := congrArg Prod.fst h1
      have hv : e.val = p.2 := congrArg Prod.snd h1
      obtain ⟨pk, pv⟩ := p
      simp only at hk hv
      unfold Instr.findNow
      rw [hk]
      by_cases c : k = pk
      · subst c
        right
        refine ⟨0, pv, by simp, by simp, ?_, rfl, fun v' => by simp [mput], by simp [mdel]⟩
        simp [Instr.sameNow, hv, bbeq]
      · have hne : Instr.sameNow .string (.string (S k)) (.string (S pk)) = some false := by
          simp [Instr.sameNow, S_inj, c, bbeq]
        rw [hne]
        simp only
        have hlk : List.lookup k ((pk, pv) :: m) = m.lookup k := by
          rw [List.lookup_cons]
          have : (k == pk) = false := by simpa using c
          rw [this]
        rw [hlk]
        rcases ih m (i + 1) h2 with ⟨a, b, d, f⟩ | ⟨j, v, hj, a, f, g, q, w⟩
        · exact .inl ⟨a, by simp [mdel, c, b], fun v => by simp [mput, c, d], f⟩
        · exact .inr ⟨j + 1, v, by simp; omega, a, by rw [f]; congr 3; omega, by simpa using g, fun v' => by simp [mput, c, q], by simp [mdel, c, w]⟩

theorem awp_checkKey {β : Type} {em : Bool} {kt : TypeId} {s : ByteArray} {f : Unit → Sem β} {K : β → AH → Prop} (hk : P.underlying kt = some .string) (h : awp P ro (f ()) K σ) : awp P ro (Sem.bind (Instr.checkKey em 10000 kt (.string s)) f) K σ := by
  rw [show (10000 : Nat) = 9999 + 1 from rfl]
  unfold Instr.checkKey
  simp only [bind_def]
  rw [bind_assoc', awp_underlying hk]
  exact h
theorem awp_findKey {β : Type} {kt : TypeId} {s : ByteArray} {l : List MapEntry} {r : Option (Nat × Value)} {f : Option (Nat × Value) → Sem β} {K : β → AH → Prop} (hk : P.underlying kt = some .string) (hr : Instr.findNow .string (.string s) l 0 = some r) (h : awp P ro (f r) K σ) :
    awp P ro (Sem.bind (Instr.findKey kt (.string s) l) f) K σ := by
  unfold Instr.findKey
  simp only [bind_def]
  rw [bind_assoc', awp_underlying hk]
  rw [hr]
  exact h

theorem awp_lookup_str {t kt et : TypeId} {zv : Value} {n bt r b : Nat} {m : KV} {k : Str} {K : Value → AH → Prop} (hm : MapIs tag σ r b m) (hs : Sep ro σ) (ht : P.underlying t = some (.map kt et)) (hk : P.underlying kt = some .string) (hz : TyIs P et zv n bt)
    (hK : K ((m.lookup k).getD zv) σ) : awp P ro (Instr.lookup t (.map (some b)) (.string (S k)) false) K σ := by
  obtain ⟨es, clock, hb, he, hbn⟩ := hm.obj
  unfold Instr.lookup
  simp only [bind_def]
  rw [awp_underlying ht]
  simp only [bind_assoc']
  refine ⟨.map es clock, by unfold rd; rw [hs b _ hb]; exact hb, rfl, ?_⟩
  refine awp_checkKey hk ?_
  rcases findNow_str k es.toList m 0 he with ⟨a, _, _, f⟩ | ⟨j, v, hj, a, f, _⟩
  · refine awp_findKey hk f ?_
    simp only [bind_assoc']
    rw [awp_zero hz]
    rw [a] at hK
    exact hK
  · refine awp_findKey hk f ?_
    rw [a] at hK
    exact hK

theorem step_obj {r b : Nat} {o o' : Obj} (hs : Sep ro σ) (ht : tag b = r) (hb : σ b = some o) : Step [r] ro tag σ tag (upd σ b o') := by
  refine ⟨fun c x hc hn => ?_, fun c x hc => ⟨rfl, ?_⟩, fun c x hc => ?_⟩
  · have : c ≠ b := fun h => hn (by simp [h, ht])
    exact ⟨rfl, by rw [upd_ne _ _ this]; exact hc⟩
  · by_cases h : c = b
    · exact ⟨_, by rw [h]; exact upd_same _ _ _⟩
    · exact ⟨x, by rw [upd_ne _ _ h]; exact hc⟩
  · by_cases h : c = b
    · exact hs c _ (by rw [h]; exact hb)
    · rw [upd_ne _ _ h] at hc; exact hs c _ hc
theorem awp_update_str {t kt et : TypeId} {r b : Nat} {m : KV} {k : Str} {v : Value} {K : Unit → AH → Prop} (hm : MapIs tag σ r b m) (hs : Sep ro σ) (ht : P.underlying t = some (.map kt et)) (hk : P.underlying kt = some .string)
    (hK : ∀ σ', Step [r] ro tag σ tag σ' → MapIs tag σ' r b (mput m k v) → K () σ') : awp P ro (Instr.mapUpdate t (.map (some b)) (.string (S k)) v) K σ := by
  obtain ⟨es, clock, hb, he, hbn⟩ := hm.obj
  unfold Instr.mapUpdate
  simp only [bind_def]
  rw [awp_underlying ht]
  refine ⟨.map es clock, by unfold rd; rw [hs b _ hb]; exact hb, rfl, ?_⟩
  refine awp_checkKey hk ?_
  rcases findNow_str k es.toList m 0 he with ⟨a, _, d, f⟩ | ⟨j, u, hj, a, f, g, q, _⟩
  · refine awp_findKey hk f ?_
    refine ⟨.map es clock, hb, rfl, ?_⟩
    refine hK _ (step_obj hs hm.tg hb) ⟨hm.tg, _, _, upd_same _ _ _, ?_, ?_, ?_⟩
    · rw [d v, Array.toList_push, List.map_append, List.map_append, he]; rfl
    · intro e he'
      rw [Array.toList_push] at he'
      rcases List.mem_append.1 he' with h | h
      · have := hbn.lt e h; omega
      · rw [List.mem_singleton] at h; rw [h]; exact Nat.lt_succ_self _
    · rw [Array.toList_push, List.map_append, List.nodup_append]
      refine ⟨hbn.nd, by simp, ?_⟩
      intro x hx y hy
      obtain ⟨e, he', rfl⟩ := List.mem_map.1 hx
      have := hbn.lt e he'
      simp at hy; omega
  · refine awp_findKey hk f ?_
    have hje : j < es.size := by simpa using hj
    have hkey : es[j].key = .string (S k) := by
      have h1 : (es.toList.map entV)[j]? = (m.map pairV)[j]? := by rw [he]
      rw [List.getElem?_map, List.getElem?_map, g, List.getElem?_eq_getElem hj] at h1
      have := Option.some.inj h1
      exact congrArg Prod.fst this
    have hst : (((es[0 + j]?).map (·.key)).getD (.string (S k))) = .string (S k) := by
      rw [Nat.zero_add, Array.getElem?_eq_getElem hje]
      exact hkey
    simp only
    rw [hst]
    have hkt : Instr.keyThatStays (.string (S k)) (.string (S k)) = Sem.pure (.string (S k)) := by
      unfold Instr.keyThatStays
      rw [if_pos (by simp [Instr.sameBits, bbeq])]; rfl
    rw [hkt]
    refine ⟨.map es clock, hb, rfl, ?_⟩
    have hml : (es.modify (0 + j) fun e => { e with key := .string (S k), val := v }).toList = es.toList.modify j fun e => { e with key := .string (S k), val := v } := by
      rw [Nat.zero_add]; exact Array.toList_modify ..
    refine hK _ (step_obj hs hm.tg hb) ⟨hm.tg, _, _, upd_same _ _ _, ?_, ?_, ?_⟩
    · rw [hml, q v]
      apply List.ext_getElem?
      intro i
      rw [List.getElem?_map, List.getElem?_map, List.getElem?_modify, List.getElem?_set]
      have hi : (es.toList.map entV)[i]? = (m.map pairV)[i]? := by rw [he]
      rw [List.getElem?_map, List.getElem?_map] at hi
      by_cases c : j = i
      · subst c
        have hjm : j < m.length := by
          rcases Nat.lt_or_ge j m.length with h | h
          · exact h
          · rw [List.getElem?_eq_none h] at g; cases g
        rw [if_pos rfl, if_pos hjm, List.getElem?_eq_getElem hj]
        simp [entV, pairV]
      · rw [if_neg c]
        simp only [c, if_false]
        cases h : es.toList[i]? with
        | none => rw [h] at hi; simpa using hi
        | some e => rw [h] at hi; simpa using hi
    · intro e he'
      rw [hml] at he'
      obtain ⟨i, hi, rfl⟩ := List.getElem_of_mem he'
      rw [List.getElem_modify]
      rw [List.length_modify] at hi
      split
      · have := hbn.lt _ (List.getElem_mem hi)
        exact this
      · have := hbn.lt _ (List.getElem_mem hi)
        exact this
    · rw [hml]
      have : (es.toList.modify j fun e => { e with key := .string (S k), val := v }).map (·.born) = es.toList.map (·.born) := by
        apply List.ext_getElem?
        intro i
        rw [List.getElem?_map, List.getElem?_map, List.getElem?_modify]
        by_cases c : j = i
        · subst c; rw [List.getElem?_eq_getElem hj]; simp
        · simp [c]
      rw [this]; exact hbn.nd
theorem awp_delete_str {t u kt et ty : TypeId} {r b : Nat} {m : KV} {k : Str} {K : Value → AH → Prop} (hm : MapIs tag σ r b m) (hs : Sep ro σ) (ht : P.underlying t = some (.map kt et)) (hk : P.underlying kt = some .string)
    (hK : ∀ σ', Step [r] ro tag σ tag σ' → MapIs tag σ' r b (mdel m k) → K (.tuple #[]) σ') : awp P ro (Builtin.delete_ #[t, u] ty #[.map (some b), .string (S k)]) K σ := by
  obtain ⟨es, clock, hb, he, hbn⟩ := hm.obj
  unfold Builtin.delete_
  simp only [bind_def]
  show awp P ro (Sem.bind (underlying t) _) K σ
  rw [awp_underlying ht]
  show awp P ro (Sem.bind (getObj b) _) K σ
  refine ⟨.map es clock, by unfold rd; rw [hs b _ hb]; exact hb, rfl, ?_⟩
  refine awp_checkKey hk ?_
  rcases findNow_str k es.toList m 0 he with ⟨a, d, _, f⟩ | ⟨j, u, hj, a, f, g, _, w⟩
  · refine awp_findKey hk f ?_
    refine ⟨.map es clock, hb, rfl, ?_⟩
    refine hK _ (step_obj hs hm.tg hb) ⟨hm.tg, _, _, upd_same _ _ _, ?_, hbn⟩
    rw [d]; exact he
  · refine awp_findKey hk f ?_
    refine ⟨.map es clock, hb, rfl, ?_⟩
    have hje : j < es.size := by simpa using hj
    have hel : (es.eraseIdxIfInBounds (0 + j)).toList = es.toList.eraseIdx j := by
      rw [Nat.zero_add]
      simp [Array.eraseIdxIfInBounds, hje]
    refine hK _ (step_obj hs hm.tg hb) ⟨hm.tg, _, _, upd_same _ _ _, ?_, ?_, ?_⟩
    · rw [hel, w]
      have h1 : ∀ (l : List MapEntry) (j : Nat), (l.eraseIdx j).map entV = (l.map entV).eraseIdx j := fun l j => by
        induction l generalizing j with
        | nil => simp
        | cons x l ih => cases j <;> simp [ih]
      have h2 : ∀ (l : KV) (j : Nat), (l.eraseIdx j).map pairV = (l.map pairV).eraseIdx j := fun l j => by
        induction l generalizing j with
        | nil => simp
        | cons x l ih => cases j <;> simp [ih]
      rw [h1, h2, he]
    · intro e he'
      rw [hel] at he'
      exact hbn.lt e ((List.eraseIdx_sublist ..).subset he')
    · rw [hel]
      exact List.Nodup.sublist ((List.eraseIdx_sublist ..).map _) hbn.nd
theorem nw_map (r : Nat) {K : Nat → AH → Prop} (hs : Sep ro σ) (hK : ∀ b tag' σ', (∀ R, Step R ro tag σ tag' σ') → MapIs tag' σ' r b [] → K b σ') : nw ro σ (.map #[] 0) K := by
  intro b hro hb
  exact hK b (setTag tag b r) _ (fun R => Step.fresh hs hro hb) ⟨by simp [setTag], _, _, upd_same _ _ _, rfl, by simp, by simp⟩
end Go.Proofs.YthfpmipeejjogaaGreatDoor.SL
