/- Str, MapS, Mem2, Arg, Mem3, Mem4, MapIt, BaseA, GT, GC, GLib, GR1, LbA -/
import Derived.Lib.Split
import Derived.KernelRfl
import Derived.Lib.LaidTab
import Derived.Lib.ItoaNum
import Derived.Test.YtfobjidchipdaaaGreatDoorProg
import Derived.Test.YtfobjidchipdaaaGreatDoorXB
/- Strings as lists of bytes; calls that leave memory as it is. Generic over any program. -/
namespace Go.Proofs.YtfobjidchipdaaaGreatDoor.SL
open Go
set_option linter.unusedSimpArgs false
variable {P : Program} {B : World} {ro σ σ' : AH} {tag tag' : Nat → Nat}

abbrev Str := List UInt8
def S (l : Str) : ByteArray := ⟨l.toArray⟩
def L (s : ByteArray) : Str := s.data.toList
@[simp] theorem L_S (l : Str) : L (S l) = l := rfl
@[simp] theorem S_L (s : ByteArray) : S (L s) = s := by cases s; rfl
theorem L_inj {a b : ByteArray} (h : L a = L b) : a = b := by rw [← S_L a, h, S_L]
theorem S_inj {a b : Str} : S a = S b ↔ a = b := ⟨fun h => by have := congrArg L h; simpa using this, fun h => by rw [h]⟩
@[simp] theorem S_size (l : Str) : (S l).size = l.length := rfl
theorem L_len (s : ByteArray) : (L s).length = s.size := rfl
theorem L_append (a b : ByteArray) : L (a ++ b) = L a ++ L b := by
  unfold L; rw [ByteArray.data_append, Array.toList_append]
theorem S_append (a b : Str) : S a ++ S b = S (a ++ b) := L_inj (by rw [L_append]; rfl)
theorem S_extract (l : Str) (i j : Nat) : (S l).extract i j = S ((l.take j).drop i) := by
  apply L_inj
  have := Go.Lib.extract_data (S l) i j
  show ((S l).extract i j).data.toList = _
  rw [this]
  simp [S, L, List.drop_take]
/-- a call that reads no memory and writes none: all that was owned is as it was -/
theorem ACalls.quiet {f : FuncId} {args : Array Value} {R : Value → Prop} {Q : Value → AH → Prop} (h : ACalls P B ro f args (fun _ => none) fun v _ => R v) (hq : ∀ v, R v → Q v σ) : ACalls P B ro f args σ Q := by
  have e : join (fun _ => none) σ = σ := by funext b; rfl
  have := ACalls.frame h (ψ := σ) (fun b o h => by cases h)
  rw [e] at this
  refine this.drop ?_
  rintro v σ' ⟨τ, rfl, hd, hr⟩
  exact ⟨σ, fun b o h => join_right hd h, hq v hr⟩

/-- what memory says, in every world that has it -/
def Sees (ro σ : AH) (w : World) : Prop := ∀ b o, rd ro σ b = some o → w.heap[b]? = some o
/-- new memory of a world -/
def News (w w' : World) (N : AH) : Prop := ∀ b o, N b = some o → w.heap.size ≤ b ∧ w'.heap[b]? = some o
theorem ACalls.of_calls {f : FuncId} {args : Array Value} {Q : Value → AH → Prop}
    (h : ∀ w, Sees ro σ w → Sep ro σ → Calls P f args w fun e w' => ∃ v N, e = .returned v ∧ Go.RowKit.Below w.heap.size w w' ∧ News w w' N ∧ Q v (join σ N)) : ACalls P B ro f args σ Q := by
  intro φ w ho
  refine (h w (fun b o hr => ho.rd hr) ho.sep).mono ?_
  rintro e w' ⟨v, N, he, hb, hn, hq⟩
  have lt : ∀ b o, w.heap[b]? = some o → w'.heap[b]? = some o ∧ N b = none := fun b o hbo => by
    have hlt := lt_of_block hbo
    refine ⟨by rw [hb.block b hlt]; exact hbo, ?_⟩
    cases hN : N b with
    | none => rfl
    | some o' => have := (hn b o' hN).1; omega
  refine ⟨v, _, he, hq, hb.os.trans ho.os, hb.tape.trans ho.tape, hb.output.trans ho.output, fun b o hj => ?_, fun b o hf => (lt b o (ho.fr b o hf)).1, fun b o hf => (lt b o (ho.ro b o hf)).1⟩
  rcases join_some hj with h1 | ⟨_, h1⟩
  · obtain ⟨h2, h3, h4⟩ := ho.own b o h1
    exact ⟨(lt b o h2).1, h3, h4⟩
  · obtain ⟨h2, h3⟩ := hn b o h1
    refine ⟨h3, ?_, ?_⟩
    · cases hf : φ b with
      | none => rfl
      | some o' => have := lt_of_block (ho.fr b o' hf); omega
    · cases hf : ro b with
      | none => rfl
      | some o' => have := lt_of_block (ho.ro b o' hf); omega
/-- one new row -/
theorem new_row {w w' : World} {g : Nat} {cs : Array Value} {e : TypeId} (r : Nat) (hs : Sees ro σ w) (hsep : Sep ro σ) (hg : w.heap.size ≤ g) (hw : w'.heap[g]? = some (.cells cs e)) :
    ∃ N tag', News w w' N ∧ (∀ R, Step R ro tag σ tag' (join σ N)) ∧ ∀ n c (l : List Value), n = l.length → c = cs.size → n ≤ c → cs.toList.take n = l → Row tag' (join σ N) r e ⟨some ⟨g, 0, none⟩, n, c⟩ l := by
  have hσ : σ g = none := by
    cases h : σ g with
    | none => rfl
    | some o => have := lt_of_block (hs g o (by unfold rd; rw [hsep g o h]; exact h)); omega
  have hro : ro g = none := by
    cases h : ro g with
    | none => rfl
    | some o => have := lt_of_block (hs g o (by unfold rd; rw [h])); omega
  have e1 : join σ (fun b => if b = g then some (.cells cs e) else none) = upd σ g (.cells cs e) := by
    funext b; unfold join upd
    by_cases h : b = g
    · subst h; simp [hσ]
    · simp [h]; cases σ b <;> rfl
  refine ⟨fun b => if b = g then some (.cells cs e) else none, setTag tag g r, ?_, ?_, ?_⟩
  · intro b o hb
    simp only at hb
    split at hb
    · rename_i h; subst h; cases hb; exact ⟨hg, hw⟩
    · cases hb
  · intro R; rw [e1]; exact Step.fresh hsep hro hσ
  · rintro n c l rfl rfl hn ht
    rw [e1]
    refine .inr ⟨g, cs, rfl, by simp [setTag], upd_same _ _ _, rfl, rfl, hn, fun i hi => ?_⟩
    have : l[i]? = cs.toList[i]? := by
      conv => lhs; rw [← ht]
      rw [List.getElem?_take, if_pos hi]
    rw [this]; simp
theorem News.none (w w' : World) : News w w' fun _ => none := fun _ _ h => by cases h
end Go.Proofs.YtfobjidchipdaaaGreatDoor.SL

/- Maps whose keys are strings: what look-ups, stores and deletes do to the list of pairs that a map holds. Generic over any program. -/
namespace Go.Proofs.YtfobjidchipdaaaGreatDoor.SL
open Go
set_option linter.unusedSimpArgs false
set_option linter.unusedVariables false
variable {P : Program} {B : World} {ro σ σ' : AH} {tag tag' : Nat → Nat}

abbrev KV := List (Str × Value)
def mput : KV → Str → Value → KV
  | [], k, v => [(k, v)]
  | (k', v') :: r, k, v => if k = k' then (k, v) :: r else (k', v') :: mput r k v
def mdel : KV → Str → KV
  | [], _ => []
  | (k', v') :: r, k => if k = k' then r else (k', v') :: mdel r k
def entV (e : MapEntry) : Value × Value := (e.key, e.val)
def pairV (p : Str × Value) : Value × Value := (.string (S p.1), p.2)
structure Born (es : Array MapEntry) (clock : Nat) : Prop where
  lt : ∀ e ∈ es.toList, e.born < clock
  nd : (es.toList.map (·.born)).Nodup
structure MapIs (tag : Nat → Nat) (σ : AH) (r b : Nat) (m : KV) : Prop where
  tg : tag b = r
  obj : ∃ es clock, σ b = some (.map es clock) ∧ es.toList.map entV = m.map pairV ∧ Born es clock

theorem MapIs.keep {R : List Nat} {r b : Nat} {m : KV} (h : MapIs tag σ r b m) (k : Step R ro tag σ tag' σ') (hr : r ∉ R) : MapIs tag' σ' r b m := by
  obtain ⟨es, c, hb, hx⟩ := h.obj
  obtain ⟨t, e⟩ := k.keep b _ hb (by rw [h.tg]; exact hr)
  exact ⟨t.trans h.tg, es, c, e, hx⟩

theorem bbeq (a b : ByteArray) : (a == b) = decide (a = b) := by
  cases a with | mk a => cases b with | mk b =>
  show (a == b) = _
  rw [Bool.eq_iff_iff]; simp
theorem findNow_str (k : Str) : ∀ (l : List MapEntry) (m : KV) (i : Nat), l.map entV = m.map pairV →
    (m.lookup k = none ∧ mdel m k = m ∧ (∀ v, mput m k v = m ++ [(k, v)]) ∧ Instr.findNow .string (.string (S k)) l i = some none) ∨
    ∃ j v, j < l.length ∧ m.lookup k = some v ∧ Instr.findNow .string (.string (S k)) l i = some (some (i + j, v)) ∧ m[j]? = some (k, v) ∧ (∀ v', mput m k v' = m.set j (k, v')) ∧ mdel m k = m.eraseIdx j := by
  intro l
  induction l with
  | nil =>
    intro m i h
    have : m = [] := by simpa using h.symm
    subst this
    exact .inl ⟨rfl, rfl, fun _ => rfl, rfl⟩
  | cons e l ih =>
    intro m i h
    cases m with
    | nil => simp at h
    | cons p m =>
      simp only [List.map_cons, List.cons.injEq] at h
      obtain ⟨h1, h2⟩ := h
      have hk : e.key = .string (S p.1) := congrArg Prod.fst h1
      have hv : e.val = p.2 := congrArg Prod.snd h1
      obtain ⟨pk, pv⟩ := p
      simp only at hk hv
      unfold Instr.findNow
      rw [hk]
      by_cases c : k = pk
      · subst c
        right
        refine ⟨0, pv, by simp, by simp, ?_, rfl, fun v' => by simp [mput], by simp [mdel]⟩
        simp [Instr.sameNow, hv, bbeq]
      · have hne : Instr.sameNow .string (.string (S k)) (.string (S pk)) = some false := by
          simp [Instr.sameNow, S_inj, c, bbeq]
        rw [hne]
        simp only
        have hlk : List.lookup k ((pk, pv) :: m) = m.lookup k := by
          rw [List.lookup_cons]
          have : (k == pk) = false := by simpa using c
          rw [this]
        rw [hlk]
        rcases ih m (i + 1) h2 with ⟨a, b, d, f⟩ | ⟨j, v, hj, a, f, g, q, w⟩
        · exact .inl ⟨a, by simp [mdel, c, b], fun v => by simp [mput, c, d], f⟩
        · exact .inr ⟨j + 1, v, by simp; omega, a, by rw [f]; congr 3; omega, by simpa using g, fun v' => by simp [mput, c, q], by simp [mdel, c, w]⟩

theorem awp_checkKey {β : Type} {em : Bool} {kt : TypeId} {s : ByteArray} {f : Unit → Sem β} {K : β → AH → Prop} (hk : P.underlying kt = some .string) (h : awp P ro (f ()) K σ) : awp P ro (Sem.bind (Instr.checkKey em 10000 kt (.string s)) f) K σ := by
  rw [show (10000 : Nat) = 9999 + 1 from rfl]
  unfold Instr.checkKey
  simp only [bind_def]
  rw [bind_assoc', awp_underlying hk]
  exact h
theorem awp_findKey {β : Type} {kt : TypeId} {s : ByteArray} {l : List MapEntry} {r : Option (Nat × Value)} {f : Option (Nat × Value) → Sem β} {K : β → AH → Prop} (hk : P.underlying kt = some .string) (hr : Instr.findNow .string (.string s) l 0 = some r) (h : awp P ro (f r) K σ) :
    awp P ro (Sem.bind (Instr.findKey kt (.string s) l) f) K σ := by
  unfold Instr.findKey
  simp only [bind_def]
  rw [bind_assoc', awp_underlying hk]
  rw [hr]
  exact h

theorem awp_lookup_str {t kt et : TypeId} {zv : Value} {n bt r b : Nat} {m : KV} {k : Str} {K : Value → AH → Prop} (hm : MapIs tag σ r b m) (hs : Sep ro σ) (ht : P.underlying t = some (.map kt et)) (hk : P.underlying kt = some .string) (hz : TyIs P et zv n bt)
    (hK : K ((m.lookup k).getD zv) σ) : awp P ro (Instr.lookup t (.map (some b)) (.string (S k)) false) K σ := by
  obtain ⟨es, clock, hb, he, hbn⟩ := hm.obj
  unfold Instr.lookup
  simp only [bind_def]
  rw [awp_underlying ht]
  simp only [bind_assoc']
  refine ⟨.map es clock, by unfold rd; rw [hs b _ hb]; exact hb, rfl, ?_⟩
  refine awp_checkKey hk ?_
  rcases findNow_str k es.toList m 0 he with ⟨a, _, _, f⟩ | ⟨j, v, hj, a, f, _⟩
  · refine awp_findKey hk f ?_
    simp only [bind_assoc']
    rw [awp_zero hz]
    rw [a] at hK
    exact hK
  · refine awp_findKey hk f ?_
    rw [a] at hK
    exact hK

theorem step_obj {r b : Nat} {o o' : Obj} (hs : Sep ro σ) (ht : tag b = r) (hb : σ b = some o) : Step [r] ro tag σ tag (upd σ b o') := by
  refine ⟨fun c x hc hn => ?_, fun c x hc => ⟨rfl, ?_⟩, fun c x hc => ?_⟩
  · have : c ≠ b := fun h => hn (by simp [h, ht])
    exact ⟨rfl, by rw [upd_ne _ _ this]; exact hc⟩
  · by_cases h : c = b
    · exact ⟨_, by rw [h]; exact upd_same _ _ _⟩
    · exact ⟨x, by rw [upd_ne _ _ h]; exact hc⟩
  · by_cases h : c = b
    · exact hs c _ (by rw [h]; exact hb)
    · rw [upd_ne _ _ h] at hc; exact hs c _ hc
theorem awp_update_str {t kt et : TypeId} {r b : Nat} {m : KV} {k : Str} {v : Value} {K : Unit → AH → Prop} (hm : MapIs tag σ r b m) (hs : Sep ro σ) (ht : P.underlying t = some (.map kt et)) (hk : P.underlying kt = some .string)
    (hK : ∀ σ', Step [r] ro tag σ tag σ' → MapIs tag σ' r b (mput m k v) → K () σ') : awp P ro (Instr.mapUpdate t (.map (some b)) (.string (S k)) v) K σ := by
  obtain ⟨es, clock, hb, he, hbn⟩ := hm.obj
  unfold Instr.mapUpdate
  simp only [bind_def]
  rw [awp_underlying ht]
  refine ⟨.map es clock, by unfold rd; rw [hs b _ hb]; exact hb, rfl, ?_⟩
  refine awp_checkKey hk ?_
  rcases findNow_str k es.toList m 0 he with ⟨a, _, d, f⟩ | ⟨j, u, hj, a, f, g, q, _⟩
  · refine awp_findKey hk f ?_
    refine ⟨.map es clock, hb, rfl, ?_⟩
    refine hK _ (step_obj hs hm.tg hb) ⟨hm.tg, _, _, upd_same _ _ _, ?_, ?_, ?_⟩
    · rw [d v, Array.toList_push, List.map_append, List.map_append, he]; rfl
    · intro e he'
      rw [Array.toList_push] at he'
      rcases List.mem_append.1 he' with h | h
      · have := hbn.lt e h; omega
      · rw [List.mem_singleton] at h; rw [h]; exact Nat.lt_succ_self _
    · rw [Array.toList_push, List.map_append, List.nodup_append]
      refine ⟨hbn.nd, by simp, ?_⟩
      intro x hx y hy
      obtain ⟨e, he', rfl⟩ := List.mem_map.1 hx
      have := hbn.lt e he'
      simp at hy; omega
  · refine awp_findKey hk f ?_
    have hje : j < es.size := by simpa using hj
    have hkey : es[j].key = .string (S k) := by
      have h1 : (es.toList.map entV)[j]? = (m.map pairV)[j]? := by rw [he]
      rw [List.getElem?_map, List.getElem?_map, g, List.getElem?_eq_getElem hj] at h1
      have := Option.some.inj h1
      exact congrArg Prod.fst this
    have hst : (((es[0 + j]?).map (·.key)).getD (.string (S k))) = .string (S k) := by
      rw [Nat.zero_add, Array.getElem?_eq_getElem hje]
      exact hkey
    simp only
    rw [hst]
    have hkt : Instr.keyThatStays (.string (S k)) (.string (S k)) = Sem.pure (.string (S k)) := by
      unfold Instr.keyThatStays
      rw [if_pos (by simp [Instr.sameBits, bbeq])]; rfl
    rw [hkt]
    refine ⟨.map es clock, hb, rfl, ?_⟩
    have hml : (es.modify (0 + j) fun e => { e with key := .string (S k), val := v }).toList = es.toList.modify j fun e => { e with key := .string (S k), val := v } := by
      rw [Nat.zero_add]; exact Array.toList_modify ..
    refine hK _ (step_obj hs hm.tg hb) ⟨hm.tg, _, _, upd_same _ _ _, ?_, ?_, ?_⟩
    · rw [hml, q v]
      apply List.ext_getElem?
      intro i
      rw [List.getElem?_map, List.getElem?_map, List.getElem?_modify, List.getElem?_set]
      have hi : (es.toList.map entV)[i]? = (m.map pairV)[i]? := by rw [he]
      rw [List.getElem?_map, List.getElem?_map] at hi
      by_cases c : j = i
      · subst c
        have hjm : j < m.length := by
          rcases Nat.lt_or_ge j m.length with h | h
          · exact h
          · rw [List.getElem?_eq_none h] at g; cases g
        rw [if_pos rfl, if_pos hjm, List.getElem?_eq_getElem hj]
        simp [entV, pairV]
      · rw [if_neg c]
        simp only [c, if_false]
        cases h : es.toList[i]? with
        | none => rw [h] at hi; simpa using hi
        | some e => rw [h] at hi; simpa using hi
    · intro e he'
      rw [hml] at he'
      obtain ⟨i, hi, rfl⟩ := List.getElem_of_mem he'
      rw [List.getElem_modify]
      rw [List.length_modify] at hi
      split
      · have := hbn.lt _ (List.getElem_mem hi)
        exact this
      · have := hbn.lt _ (List.getElem_mem hi)
        exact this
    · rw [hml]
      have : (es.toList.modify j fun e => { e with key := .string (S k), val := v }).map (·.born) = es.toList.map (·.born) := by
        apply List.ext_getElem?
        intro i
        rw [List.getElem?_map, List.getElem?_map, List.getElem?_modify]
        by_cases c : j = i
        · subst c; rw [List.getElem?_eq_getElem hj]; simp
        · simp [c]
      rw [this]; exact hbn.nd
theorem awp_delete_str {t u kt et ty : TypeId} {r b : Nat} {m : KV} {k : Str} {K : Value → AH → Prop} (hm : MapIs tag σ r b m) (hs : Sep ro σ) (ht : P.underlying t = some (.map kt et)) (hk : P.underlying kt = some .string)
    (hK : ∀ σ', Step [r] ro tag σ tag σ' → MapIs tag σ' r b (mdel m k) → K (.tuple #[]) σ') : awp P ro (Builtin.delete_ #[t, u] ty #[.map (some b), .string (S k)]) K σ := by
  obtain ⟨es, clock, hb, he, hbn⟩ := hm.obj
  unfold Builtin.delete_
  simp only [bind_def]
  show awp P ro (Sem.bind (underlying t) _) K σ
  rw [awp_underlying ht]
  show awp P ro (Sem.bind (getObj b) _) K σ
  refine ⟨.map es clock, by unfold rd; rw [hs b _ hb]; exact hb, rfl, ?_⟩
  refine awp_checkKey hk ?_
  rcases findNow_str k es.toList m 0 he with ⟨a, d, _, f⟩ | ⟨j, u, hj, a, f, g, _, w⟩
  · refine awp_findKey hk f ?_
    refine ⟨.map es clock, hb, rfl, ?_⟩
    refine hK _ (step_obj hs hm.tg hb) ⟨hm.tg, _, _, upd_same _ _ _, ?_, hbn⟩
    rw [d]; exact he
  · refine awp_findKey hk f ?_
    refine ⟨.map es clock, hb, rfl, ?_⟩
    have hje : j < es.size := by simpa using hj
    have hel : (es.eraseIdxIfInBounds (0 + j)).toList = es.toList.eraseIdx j := by
      rw [Nat.zero_add]
      simp [Array.eraseIdxIfInBounds, hje]
    refine hK _ (step_obj hs hm.tg hb) ⟨hm.tg, _, _, upd_same _ _ _, ?_, ?_, ?_⟩
    · rw [hel, w]
      have h1 : ∀ (l : List MapEntry) (j : Nat), (l.eraseIdx j).map entV = (l.map entV).eraseIdx j := fun l j => by
        induction l generalizing j with
        | nil => simp
        | cons x l ih => cases j <;> simp [ih]
      have h2 : ∀ (l : KV) (j : Nat), (l.eraseIdx j).map pairV = (l.map pairV).eraseIdx j := fun l j => by
        induction l generalizing j with
        | nil => simp
        | cons x l ih => cases j <;> simp [ih]
      rw [h1, h2, he]
    · intro e he'
      rw [hel] at he'
      exact hbn.lt e ((List.eraseIdx_sublist ..).subset he')
    · rw [hel]
      exact List.Nodup.sublist ((List.eraseIdx_sublist ..).map _) hbn.nd
theorem nw_map (r : Nat) {K : Nat → AH → Prop} (hs : Sep ro σ) (hK : ∀ b tag' σ', (∀ R, Step R ro tag σ tag' σ') → MapIs tag' σ' r b [] → K b σ') : nw ro σ (.map #[] 0) K := by
  intro b hro hb
  exact hK b (setTag tag b r) _ (fun R => Step.fresh hs hro hb) ⟨by simp [setTag], _, _, upd_same _ _ _, rfl, by simp, by simp⟩
end Go.Proofs.YtfobjidchipdaaaGreatDoor.SL

/- Memory, on: slices that are only read, appends of many, classes of roles. Generic over any program. -/
namespace Go.Proofs.YtfobjidchipdaaaGreatDoor.SL
open Go
set_option linter.unusedSimpArgs false
set_option linter.unusedVariables false
variable {P : Program} {B : World} {ro σ σ' : AH} {tag tag' : Nat → Nat}

/-- what a slice reads as -/
def Read (ro σ : AH) (s : Sl) (l : List Value) : Prop := s.len = l.length ∧ (s.a = none → l = []) ∧ ∀ p, s.a = some p → ∀ i v, l[i]? = some v → acell ro σ (p.add i) = some v
theorem Row.read {r : Nat} {e : TypeId} {s : Sl} {l : List Value} (h : Row tag σ r e s l) (hs : Sep ro σ) : Read ro σ s l := by
  refine ⟨h.len, fun hn => ?_, fun p hp i v hv => ?_⟩
  · rcases h with ⟨_, h⟩ | ⟨b, cs, ha, _⟩
    · exact h
    · rw [hn] at ha; cases ha
  · have hl : 0 < l.length := by
      rcases Nat.eq_zero_or_pos l.length with h0 | h0
      · rw [List.eq_nil_of_length_eq_zero h0] at hv; cases hv
      · exact h0
    obtain ⟨q, hq, hg⟩ := h.ptr hs hl
    rw [hp] at hq; cases hq
    have := hg i v hv
    rwa [Nat.mul_one] at this
theorem Read.keep {s : Sl} {l : List Value} (h : Read ro (fun _ => none) s l) : Read ro σ s l := by
  refine ⟨h.1, h.2.1, fun p hp i v hv => ?_⟩
  have := h.2.2 p hp i v hv
  unfold acell rd at this ⊢
  cases e : ro (p.add i).block with
  | none => rw [e] at this; simp [cellOf] at this
  | some o => rw [e] at this; exact this

theorem Read.step {s : Sl} {l : List Value} (h : Read ro σ s l) (k : Step [] ro tag σ tag' σ') : Read ro σ' s l := by
  refine ⟨h.1, h.2.1, fun p hp i v hv => ?_⟩
  have := h.2.2 p hp i v hv
  unfold acell rd at this ⊢
  cases e : ro (p.add i).block with
  | some o => rw [e] at this; exact this
  | none =>
    rw [e] at this
    simp only at this ⊢
    cases e2 : σ (p.add i).block with
    | none => rw [e2] at this; simp [cellOf] at this
    | some o => rw [(k.keep _ o e2 (by simp)).2]; rw [e2] at this; exact this
theorem stN_blk {b o : Nat} {e : TypeId} {K : AH → Prop} : ∀ (vs : List Value) (cs : Array Value) (i : Nat) (σ : AH), σ b = some (.cells cs e) → o + i + vs.length ≤ cs.size → (∀ v ∈ vs, storable v = true) →
    (∀ cs' : Array Value, cs'.size = cs.size → (∀ j, j < o + i → cs'[j]? = cs[j]?) → (∀ j v, vs[j]? = some v → cs'[o + i + j]? = some v) → K (upd σ b (.cells cs' e))) → stN ⟨b, o, none⟩ K vs i σ := by
  intro vs
  induction vs with
  | nil =>
    intro cs i σ hb _ _ hK
    have := hK cs rfl (fun _ _ => rfl) (fun j v h => by cases h)
    have e : upd σ b (.cells cs e) = σ := by
      funext c; unfold upd; split
      · rename_i h; rw [h, hb]
      · rfl
    rw [e] at this; exact this
  | cons x vs ih =>
    intro cs i σ hb hsz hst hK
    simp only [List.length_cons] at hsz
    refine ⟨hst x (by simp), by simp, cs, e, (0, 0), ?_, ?_, ?_, ?_⟩
    · simpa using hb
    · simp; omega
    · simp
    · simp only [add_add]
      refine ih _ (i + 1) _ (upd_same _ _ _) (by simp; omega) (fun v hv => hst v (by simp [hv])) fun cs' h1 h2 h3 => ?_
      rw [upd_upd]
      refine hK cs' (by simpa using h1) (fun j hj => ?_) fun j v hj => ?_
      · rw [h2 j (by omega), Array.getElem?_setIfInBounds_ne (by omega)]
      · rcases j with _ | j
        · cases hj
          rw [Nat.add_zero, h2 (o + i) (by omega), Array.getElem?_setIfInBounds_self_of_lt (by omega)]
        · rw [show o + i + (j + 1) = o + (i + 1) + j by omega]; exact h3 j v hj

theorem awp_appendN {r : Nat} {e t : TypeId} {s s2 : Sl} {l l2 : List Value} {zv : Value} {bytes : Nat} {ty : TypeId} {Q : Value → AH → Prop} (h : Row tag σ r e s l) (hs : Sep ro σ) (h2 : Read ro σ s2 l2)
    (ht : P.underlying t = some (.slice e)) (hz : TyIs P e zv 1 bytes) (hzc : zv.cells = #[zv]) (hv : ∀ v ∈ l2, storable v = true) (hb : (l.length + l2.length) * bytes ≤ 140737488355328) (hb0 : 0 < bytes)
    (hK : ∀ s' tag' σ', (∀ R, s.len = s.cap ∨ r ∈ R → Step R ro tag σ tag' σ') → Row tag' σ' r e s' (l ++ l2) → Q (Sl.v s') σ') :
    awp P ro (Builtin.append_ #[t, t] ty #[Sl.v s, Sl.v s2]) Q σ := by
  obtain ⟨i, hi, hiz, his, hib⟩ := hz
  have hz : TyIs P e zv 1 bytes := ⟨i, hi, hiz, his, hib⟩
  have g0 : (#[t, t] : Array TypeId)[0]? = some t := rfl
  have g1 : (#[t, t] : Array TypeId)[1]? = some t := rfl
  have g2 : (#[Value.slice s.a s.len s.cap, Value.slice s2.a s2.len s2.cap] : Array Value)[0]? = some (Value.slice s.a s.len s.cap) := rfl
  have g3 : (#[Value.slice s.a s.len s.cap, Value.slice s2.a s2.len s2.cap] : Array Value)[1]? = some (Value.slice s2.a s2.len s2.cap) := rfl
  have hln := h2.1
  have hld : ∀ {β : Type} (f : Array Value → Sem β) (Q : β → AH → Prop), awp P ro (f l2.toArray) Q σ → awp P ro (Sem.bind (Builtin.firstCells 1 s2.len (.slice s2.a s2.len s2.cap)) f) Q σ := by
    intro β f Q hf
    cases hsa : s2.a with
    | none =>
      rw [h2.2.1 hsa] at hf
      exact hf
    | some p =>
      rw [show Sem.bind (Builtin.firstCells 1 s2.len (.slice (some p) s2.len s2.cap)) f = (loadCells p (s2.len * 1)) >>= f from rfl, awp_bind, Nat.mul_one, hln]
      exact awp_loadCells l2 0 #[] (cellsAt_of 0 fun j v hj => by rw [Nat.zero_add]; exact h2.2.2 p hsa j v hj) (by simpa using hf)
  unfold Builtin.append_
  simp only [Sl.v, bind_def, pure_def, g0, g1, g2, g3]
  rw [awp_underlying ht]
  simp only []
  rw [awp_size hz]
  rw [awp_underlying ht]
  simp only [bind_pure', Builtin.lenOf, bind_def, pure_def, Bool.false_eq_true, if_false, Bool.not_false, if_true, false_or]
  split
  · rename_i hroom
    refine hld _ _ ?_
    rcases h with ⟨rfl, rfl⟩ | ⟨b, cs, ha, htg, hbk, hln1, hcp, hle, hg⟩
    · have h0 : l2 = [] := List.eq_nil_of_length_eq_zero (by simp at hroom; omega)
      subst h0
      have hs2 : s2.len = 0 := hln
      show Q (.slice none (0 + s2.len) 0) σ
      rw [hs2]
      exact hK ⟨none, 0, 0⟩ tag σ (fun _ _ => Step.refl hs) (.inl ⟨rfl, rfl⟩)
    · have h' : Row tag σ r e s l := .inr ⟨b, cs, ha, htg, hbk, hln1, hcp, hle, hg⟩
      by_cases h0 : l2 = []
      · subst h0
        have hs2 : s2.len = 0 := hln
        simp only [ha]
        show Q (Value.slice (some ⟨b, 0, none⟩) (s.len + s2.len) s.cap) σ
        rw [hs2, Nat.add_zero]
        have := hK s tag σ (fun _ _ => Step.refl hs) (by rw [List.append_nil]; exact h')
        unfold Sl.v at this
        rw [ha] at this; exact this
      have hpos := List.length_pos_iff.2 h0
      simp only [ha]
      show awp P ro (storeCells (Addr.add ⟨b, 0, none⟩ (s.len * 1)) l2 >>= fun _ => Sem.pure (Value.slice (some ⟨b, 0, none⟩) (s.len + s2.len) s.cap)) Q σ
      rw [awp_bind, add_add, Nat.mul_one, Nat.zero_add]
      refine awp_storeCells l2 0 σ (stN_blk l2 cs 0 σ hbk (by omega) hv fun cs' c1 c2 c3 => ?_)
      show Q (Value.slice (some ⟨b, 0, none⟩) (s.len + s2.len) s.cap) _
      refine hK ⟨some ⟨b, 0, none⟩, s.len + s2.len, s.cap⟩ tag _ (fun R hR => (step_obj hs htg hbk).mono fun x hx => by rw [List.mem_singleton] at hx; rw [hx]; exact hR.resolve_left (by omega)) (.inr ⟨b, cs', rfl, htg, upd_same _ _ _, by simp [hln1, hln], by rw [c1]; exact hcp, hroom, fun i hi => ?_⟩)
      simp at hi
      rcases Nat.lt_or_ge i l.length with hh | hh
      · rw [c2 i (by omega), List.getElem?_append_left hh]; exact hg i hh
      · rw [List.getElem?_append_right hh]
        have := c3 (i - l.length) _ (List.getElem?_eq_getElem (by omega))
        rw [List.getElem?_eq_getElem (by omega), ← this]
        congr 1; omega
  · rename_i hroom
    rw [awp_typeInfo hi]
    rw [if_neg (by rw [hib]; omega)]
    rw [awp_typeInfo hi]
    have hl := h.len
    rw [if_neg (by rw [hib]; have := growslice_fits (need := s.len + s2.len) (old := s.cap) (bytes := bytes) (by omega) (by rw [hl, hln]; exact hb); omega)]
    refine awp_choose rfl (fun n => ?_)
    rw [awp_typeInfo hi]
    refine awp_askRoom ?_
    have hcut : s.len + s2.len ≤ (Question.appendCap (s.len + s2.len) s.cap e).cut n := by simp only [Question.cut]; omega
    generalize (Question.appendCap (s.len + s2.len) s.cap e).cut n = N at hcut
    refine awp_first h hs ?_
    refine hld _ _ ?_
    rw [awp_zero hz]
    rw [hzc]
    show ∀ b, ro b = none → σ b = none → Q (Value.slice (some ⟨b, 0, none⟩) (s.len + s2.len) N) (upd σ b _)
    intro b hro hb
    refine hK ⟨some ⟨b, 0, none⟩, s.len + s2.len, N⟩ (setTag tag b r) _ (fun _ _ => Step.fresh hs hro hb) (.inr ⟨b, _, rfl, by simp [setTag], upd_same _ _ _, by simp [hl, hln], ?_, hcut, fun i hi => ?_⟩)
    · simp [Builtin.zeroCells]; omega
    · simp at hi
      rw [Array.getElem?_append_left (by simp; omega)]
      simp

/-- new memory whose role its own number tells -/
theorem nw_cellsF (r : Nat → Nat) {e : TypeId} {cs : Array Value} {K : Nat → AH → Prop} (hs : Sep ro σ)
    (hK : ∀ b tag' σ', ro b = none → σ b = none → (∀ R, Step R ro tag σ tag' σ') → Row tag' σ' (r b) e ⟨some ⟨b, 0, none⟩, cs.size, cs.size⟩ cs.toList → K b σ') : nw ro σ (.cells cs e) K := by
  intro b hro hb
  exact hK b (setTag tag b (r b)) _ hro hb (fun R => Step.fresh hs hro hb) (.inr ⟨b, _, rfl, by simp [setTag], upd_same _ _ _, by simp, rfl, Nat.le_refl _, fun i hi => by simp⟩)

/-- only roles of one class change -/
def StepC (c : Nat) (ro : AH) (tag : Nat → Nat) (σ : AH) (tag' : Nat → Nat) (σ' : AH) : Prop := ∃ R : List Nat, (∀ x ∈ R, x % 64 = c) ∧ Step R ro tag σ tag' σ'
theorem Step.c {c : Nat} {R : List Nat} (h : Step R ro tag σ tag' σ') (hR : ∀ x ∈ R, x % 64 = c) : StepC c ro tag σ tag' σ' := ⟨R, hR, h⟩
theorem StepC.sep {c : Nat} (h : StepC c ro tag σ tag' σ') : Sep ro σ' := by obtain ⟨_, _, h⟩ := h; exact h.sep
theorem StepC.trans {c : Nat} {tag'' : Nat → Nat} {σ'' : AH} (h : StepC c ro tag σ tag' σ') (k : StepC c ro tag' σ' tag'' σ'') : StepC c ro tag σ tag'' σ'' := by
  obtain ⟨R, h1, h2⟩ := h
  obtain ⟨R', k1, k2⟩ := k
  refine ⟨R ++ R', fun x hx => ?_, (h2.mono fun r hr => by simp [hr]).trans (k2.mono fun r hr => by simp [hr])⟩
  rcases List.mem_append.1 hx with h | h
  · exact h1 x h
  · exact k1 x h
theorem StepC.refl {c : Nat} (h : Sep ro σ) : StepC c ro tag σ tag σ := ⟨[], by simp, Step.refl h⟩
/-! with one block lent, all reads as before -/
theorem rd_lent (b c : Nat) : rd (join ro (one σ b)) (SL.del σ b) c = rd ro σ c := by
  unfold rd join one SL.del
  cases h : ro c with
  | some o => rfl
  | none =>
    by_cases e : c = b
    · subst e; simp only [if_true]; cases σ c <;> rfl
    · simp [e]
theorem Read.lent {s : Sl} {l : List Value} (b : Nat) (h : Read ro σ s l) : Read (join ro (one σ b)) (SL.del σ b) s l :=
  ⟨h.1, h.2.1, fun p hp i v hv => by have := h.2.2 p hp i v hv; unfold acell at this ⊢; rw [rd_lent]; exact this⟩
theorem MapIs.del {r b c : Nat} {m : KV} (h : MapIs tag σ r b m) (hc : tag c ≠ r) : MapIs tag (SL.del σ c) r b m := by
  obtain ⟨es, k, hb, hx⟩ := h.obj
  refine ⟨h.tg, es, k, ?_, hx⟩
  have : b ≠ c := fun e => hc (by rw [← e]; exact h.tg)
  unfold SL.del; rw [if_neg this]; exact hb
theorem MapIs.back {r b c r' : Nat} {m : KV} {τ : AH} (h : MapIs tag' τ r b m) (hd : Disj (one σ c) τ) (hb : ∃ o, σ c = some o) : MapIs (setTag tag' c r') (join (one σ c) τ) r b m := by
  obtain ⟨es, k, hs, hx⟩ := h.obj
  have hcb : b ≠ c := fun e => by
    obtain ⟨o, ho⟩ := hb
    have := hd c o (by unfold one; rw [if_pos rfl]; exact ho)
    rw [← e, hs] at this; cases this
  exact ⟨by unfold setTag; rw [if_neg hcb]; exact h.tg, es, k, by unfold join one; rw [if_neg hcb]; exact hs, hx⟩

/-- all cells of a row anew -/
theorem Row.stAll {r : Nat} {e : TypeId} {b n c : Nat} {l vs : List Value} {K : AH → Prop} (h : Row tag σ r e ⟨some ⟨b, 0, none⟩, n, c⟩ l) (hs : Sep ro σ) (hl : vs.length = l.length) (hv : ∀ v ∈ vs, storable v = true)
    (hK : ∀ σ', Step [r] ro tag σ tag σ' → Row tag σ' r e ⟨some ⟨b, 0, none⟩, n, c⟩ vs → K σ') : stN ⟨b, 0, none⟩ K vs 0 σ := by
  rcases h with ⟨h, _⟩ | ⟨b', cs, ha, ht, hb, hln, hc, hle, hg⟩
  · cases h
  · cases ha
    refine stN_blk vs cs 0 σ hb (by simp at hln hc hle; omega) hv fun cs' c1 _ c3 => ?_
    refine hK _ (step_obj hs ht hb) (.inr ⟨b, cs', rfl, ht, upd_same _ _ _, by rw [hl]; exact hln, by rw [c1]; exact hc, hle, fun i hi => ?_⟩)
    have := c3 i _ (List.getElem?_eq_getElem hi)
    rw [List.getElem?_eq_getElem hi, ← this]; congr 1; omega
end Go.Proofs.YtfobjidchipdaaaGreatDoor.SL

/- What an argument is, to whatever depth: a reading with its sizes. Generic over any program. -/
namespace Go.Proofs.YtfobjidchipdaaaGreatDoor.SL
open Go
set_option linter.unusedSimpArgs false
set_option linter.unusedVariables false
variable {P : Program} {W : World}

/-- the cells cs read as a value of type t, and nothing in it is larger than the reach -/
def Arg (P : Program) (W : World) (H : Type) (enc : TypeId × Value → H) (t : TypeId) (cs : List Value) : Prop :=
  ∃ (fuel : Nat) (d : DataW H) (ps : List MemPlace), DataW.trod enc P W 0 (fun _ => true) true fuel t cs = some (d, ps) ∧ (d.weights P t).all (· ≤ reachBytes) = true
variable {H : Type} {enc : TypeId × Value → H}

theorem weightsAll_get {e : TypeId} : ∀ {l : List (DataW H)} {d : DataW H}, d ∈ l → (DataW.weightsAll P e l).all (· ≤ reachBytes) = true → (d.weights P e).all (· ≤ reachBytes) = true := by
  intro l
  induction l with
  | nil => intro d h; cases h
  | cons x l ih =>
    intro d h hw
    rw [DataW.weightsAll, List.all_append, Bool.and_eq_true] at hw
    rcases List.mem_cons.1 h with rfl | h
    · exact hw.1
    · exact ih h hw.2
theorem weightsEach_get : ∀ {ts : List TypeId} {l : List (DataW H)} {i : Nat} {t : TypeId} {d : DataW H}, ts[i]? = some t → l[i]? = some d → (DataW.weightsEach P ts l).all (· ≤ reachBytes) = true → (d.weights P t).all (· ≤ reachBytes) = true := by
  intro ts
  induction ts with
  | nil => intro l i t d h; cases h
  | cons t' ts ih =>
    intro l i t d ht hd hw
    cases l with
    | nil => cases hd
    | cons x l =>
      rw [DataW.weightsEach, List.all_append, Bool.and_eq_true] at hw
      cases i with
      | zero => cases ht; cases hd; exact hw.1
      | succ i => exact ih (by simpa using ht) (by simpa using hd) hw.2
theorem Arg.slice {t e : TypeId} {a : Option Addr} {len cap : Nat} (ht : P.underlying t = some (.slice e)) (h : Arg P W H enc t [.slice a len cap]) :
    (a = none ∧ len = 0 ∧ cap = 0) ∨ ∃ x, a = some x ∧ len ≤ cap ∧ cap * P.bytesOf e ≤ reachBytes ∧ ∀ j, j < len → ∃ cs, cs.length = P.cellsOf e ∧ (∀ i, i < P.cellsOf e → W.cell? ((x.add (j * P.cellsOf e)).add i) = cs[i]?) ∧ Arg P W H enc e cs := by
  obtain ⟨fuel, d, ps, hf, hw⟩ := h
  rcases Go.Deep.open_slice ht hf with ⟨hcs, _⟩ | ⟨x, l, c, m, n, D, Pl, hcs, _, hl, _, hm, hx, hel⟩
  · simp at hcs; exact .inl hcs
  · simp at hcs
    obtain ⟨rfl, rfl, rfl⟩ := hcs
    simp only [Prod.mk.injEq] at hx
    rw [hx.1] at hw
    rw [DataW.weights, ht] at hw
    simp only [List.all_cons, List.all_append, Bool.and_eq_true, decide_eq_true_eq, List.length_map, List.length_range] at hw
    refine .inr ⟨x, rfl, hl, ?_, fun j hj => ?_⟩
    · have : len + (m - len) = cap := by simp at hm; omega
      rw [this] at hw; exact hw.1
    · obtain ⟨cs, h1, h2⟩ := hel j (by simp at hm; omega)
      obtain ⟨_, h3, h4⟩ := World.cells?_some h1
      exact ⟨cs, h3, h4, n, D j, Pl j, h2, weightsAll_get (List.mem_map.2 ⟨j, List.mem_range.2 hj, rfl⟩) hw.2.1⟩
theorem Arg.struct {t : TypeId} {fs : Array Field} {cs : List Value} (ht : P.underlying t = some (.struct fs)) (h : Arg P W H enc t cs) :
    cs.length = P.cellsOf t ∧ ∀ (i : Nat) (f : Field), fs.toList[i]? = some f → Arg P W H enc f.type ((cs.drop f.offset).take (P.cellsOf f.type)) := by
  obtain ⟨fuel, d, ps, hf, hw⟩ := h
  cases fuel with
  | zero => cases hf
  | succ n =>
    unfold DataW.trod at hf
    rw [ht] at hf
    simp only at hf
    split at hf
    · rename_i hl
      refine ⟨hl, fun i f hi => ?_⟩
      obtain ⟨r, hr, hd⟩ := Option.map_eq_some_iff.1 hf
      have h1 := mapM_some_get hr i f hi
      have h2 := mapM_some_length hr
      have hil : i < fs.toList.length := by
        rcases Nat.lt_or_ge i fs.toList.length with h' | h'
        · exact h'
        · rw [List.getElem?_eq_none h'] at hi; cases hi
      rw [List.getElem?_eq_getElem (by omega)] at h1
      simp only [Prod.mk.injEq] at hd
      rw [← hd.1, DataW.weights, ht] at hw
      refine ⟨n, r[i].1, r[i].2, h1, weightsEach_get (ts := fs.toList.map (·.type)) (i := i) (by rw [List.getElem?_map, hi]; rfl) (by rw [List.getElem?_map, List.getElem?_eq_getElem (by omega)]; rfl) hw⟩
    · cases hf
theorem Arg.i64 {t : TypeId} {u : Value} (ht : P.underlying t = some (.int .i64)) (h : Arg P W H enc t [u]) : ∃ x : Int, u = .int .i64 x := by
  obtain ⟨fuel, d, ps, hf, hw⟩ := h
  obtain ⟨x, h, _⟩ := trod_i64 ht hf
  exact ⟨x, h⟩
theorem Arg.u8 {t : TypeId} {u : Value} (ht : P.underlying t = some (.int .u8)) (h : Arg P W H enc t [u]) : ∃ c : UInt8, u = .int .u8 c.toNat := by
  obtain ⟨fuel, d, ps, hf, hw⟩ := h
  cases fuel with
  | zero => cases hf
  | succ n =>
    unfold DataW.trod at hf
    rw [ht] at hf
    cases u <;> simp at hf
    rename_i k x
    obtain ⟨⟨rfl, hwf⟩, _⟩ := hf
    simp [Lit.wf, IntKind.min, IntKind.max, IntKind.bits, IntKind.signed] at hwf
    refine ⟨UInt8.ofNat x.toNat, ?_⟩
    congr 1
    simp; omega
theorem Arg.bool {t : TypeId} {u : Value} (ht : P.underlying t = some .bool) (h : Arg P W H enc t [u]) : ∃ b : Bool, u = .bool b := by
  obtain ⟨fuel, d, ps, hf, hw⟩ := h
  cases fuel with
  | zero => cases hf
  | succ n =>
    unfold DataW.trod at hf
    rw [ht] at hf
    cases u <;> simp at hf
    exact ⟨_, rfl⟩
end Go.Proofs.YtfobjidchipdaaaGreatDoor.SL

/- Rows whose elements take several cells. Generic over any program. -/
namespace Go.Proofs.YtfobjidchipdaaaGreatDoor.SL
open Go
set_option linter.unusedVariables false
set_option linter.unusedSimpArgs false
variable {P : Program} {B : World} {ro σ σ' : AH} {tag tag' : Nat → Nat}

theorem flat_len {w : Nat} : ∀ {l : List (List Value)}, (∀ x ∈ l, x.length = w) → l.flatten.length = l.length * w := by
  intro l
  induction l with
  | nil => intro _; simp
  | cons x l ih => intro h; rw [List.flatten_cons, List.length_append, h x (by simp), ih fun y hy => h y (by simp [hy]), List.length_cons, Nat.add_mul]; omega
theorem flat_get {w : Nat} : ∀ {l : List (List Value)}, (∀ x ∈ l, x.length = w) → ∀ {j : Nat} {x : List Value} {i : Nat}, l[j]? = some x → i < w → l.flatten[j * w + i]? = x[i]? := by
  intro l
  induction l with
  | nil => intro _ j x i h; cases h
  | cons y l ih =>
    intro h j x i hj hi
    rw [List.flatten_cons]
    have hy := h y (by simp)
    rcases j with _ | j
    · cases hj
      rw [Nat.zero_mul, Nat.zero_add, List.getElem?_append_left (by omega)]
    · rw [List.getElem?_append_right (by rw [hy, Nat.add_mul]; omega), hy, show (j + 1) * w + i - w = j * w + i by rw [Nat.add_mul]; omega]
      exact ih (fun z hz => h z (by simp [hz])) (by simpa using hj) hi
theorem flat_set {w : Nat} : ∀ {l : List (List Value)}, (∀ x ∈ l, x.length = w) → ∀ {j : Nat} {x : List Value} {i : Nat} (v : Value), l[j]? = some x → i < w → l.flatten.set (j * w + i) v = (l.set j (x.set i v)).flatten := by
  intro l
  induction l with
  | nil => intro _ j x i v h; cases h
  | cons y l ih =>
    intro h j x i v hj hi
    have hy := h y (by simp)
    rcases j with _ | j
    · cases hj
      rw [List.flatten_cons, Nat.zero_mul, Nat.zero_add, List.set_append_left _ _ (by omega)]; rfl
    · rw [List.flatten_cons, List.set_append_right _ _ (by rw [hy, Nat.add_mul]; omega), hy, show (j + 1) * w + i - w = j * w + i by rw [Nat.add_mul]; omega, ih (fun z hz => h z (by simp [hz])) v (by simpa using hj) hi]
      rfl

/-- a row of elements of w cells each, of one role -/
def RowW (tag : Nat → Nat) (σ : AH) (r : Nat) (e : TypeId) (w : Nat) (s : Sl) (l : List (List Value)) : Prop :=
  (s = ⟨none, 0, 0⟩ ∧ l = []) ∨ ∃ (b : Nat) (cs : Array Value), s.a = some ⟨b, 0, none⟩ ∧ tag b = r ∧ σ b = some (.cells cs e) ∧ s.len = l.length ∧ cs.size = s.cap * w ∧ s.len ≤ s.cap ∧ (∀ x ∈ l, x.length = w) ∧ ∀ (i : Nat) (v : Value), l.flatten[i]? = some v → cs[i]? = some v
theorem RowW.nil (r : Nat) (e : TypeId) (w : Nat) : RowW tag σ r e w ⟨none, 0, 0⟩ [] := .inl ⟨rfl, rfl⟩
theorem RowW.len {r : Nat} {e : TypeId} {w : Nat} {s : Sl} {l : List (List Value)} (h : RowW tag σ r e w s l) : s.len = l.length := by
  rcases h with ⟨rfl, rfl⟩ | ⟨b, cs, _, _, _, h, _⟩
  · rfl
  · exact h
theorem RowW.cap {r : Nat} {e : TypeId} {w : Nat} {s : Sl} {l : List (List Value)} (h : RowW tag σ r e w s l) : s.len ≤ s.cap := by
  rcases h with ⟨rfl, rfl⟩ | ⟨b, cs, _, _, _, _, _, h, _⟩
  · exact Nat.le_refl _
  · exact h
theorem RowW.wide {r : Nat} {e : TypeId} {w : Nat} {s : Sl} {l : List (List Value)} (h : RowW tag σ r e w s l) : ∀ x ∈ l, x.length = w := by
  rcases h with ⟨rfl, rfl⟩ | ⟨b, cs, _, _, _, _, _, _, h, _⟩
  · intro x hx; cases hx
  · exact h
theorem RowW.keep {R : List Nat} {r : Nat} {e : TypeId} {w : Nat} {s : Sl} {l : List (List Value)} (h : RowW tag σ r e w s l) (k : Step R ro tag σ tag' σ') (hr : r ∉ R) : RowW tag' σ' r e w s l := by
  rcases h with h | ⟨b, cs, ha, ht, hs, hx⟩
  · exact .inl h
  · obtain ⟨t, e⟩ := k.keep b _ hs (by rw [ht]; exact hr)
    exact .inr ⟨b, cs, ha, t.trans ht, e, hx⟩
/-- what stands in an element -/
theorem RowW.get {r : Nat} {e : TypeId} {w : Nat} {s : Sl} {l : List (List Value)} (h : RowW tag σ r e w s l) (hs : Sep ro σ) {j : Nat} {x : List Value} (hj : l[j]? = some x) :
    ∃ b, s.a = some ⟨b, 0, none⟩ ∧ tag b = r ∧ ∀ i v, x[i]? = some v → acell ro σ ⟨b, j * w + i, none⟩ = some v := by
  rcases h with ⟨_, rfl⟩ | ⟨b, cs, ha, ht, hb, hln, hc, hle, hw, hg⟩
  · cases hj
  · refine ⟨b, ha, ht, fun i v hv => ?_⟩
    have hx : x.length = w := hw x (List.mem_of_getElem? hj)
    have hi : i < w := by
      rcases Nat.lt_or_ge i w with h | h
      · exact h
      · rw [List.getElem?_eq_none (by omega)] at hv; cases hv
    have := hg (j * w + i) v (by rw [flat_get hw hj hi]; exact hv)
    unfold acell rd
    simp only [hs b _ hb, hb, cellOf]
    exact this
theorem RowW.block {r : Nat} {e : TypeId} {w : Nat} {b n c : Nat} {l : List (List Value)} (h : RowW tag σ r e w ⟨some ⟨b, 0, none⟩, n, c⟩ l) : tag b = r ∧ ∃ cs, σ b = some (.cells cs e) ∧ cs.size = c * w := by
  rcases h with ⟨h, _⟩ | ⟨b', cs, ha, ht, hb, _, hc, _⟩
  · cases h
  · cases ha; exact ⟨ht, cs, hb, hc⟩
/-- a cell of an element anew -/
theorem RowW.st {r : Nat} {e : TypeId} {w : Nat} {s : Sl} {l : List (List Value)} {b j i : Nat} {x : List Value} {v : Value} {K : AH → Prop} (h : RowW tag σ r e w s l) (hs : Sep ro σ) (ha : s.a = some ⟨b, 0, none⟩) (hj : l[j]? = some x) (hi : i < w) (hv : storable v = true)
    (hK : ∀ σ', Step [r] ro tag σ tag σ' → RowW tag σ' r e w s (l.set j (x.set i v)) → K σ') : stN ⟨b, j * w + i, none⟩ K [v] 0 σ := by
  rcases h with ⟨_, rfl⟩ | ⟨b', cs, ha', ht, hb, hln, hc, hle, hw, hg⟩
  · cases hj
  · rw [ha] at ha'; cases ha'
    have hjl : j < l.length := by
      rcases Nat.lt_or_ge j l.length with h | h
      · exact h
      · rw [List.getElem?_eq_none h] at hj; cases hj
    have hlt : j * w + i < cs.size := by
      rw [hc]
      have : (j + 1) * w ≤ s.cap * w := Nat.mul_le_mul_right _ (by omega)
      rw [Nat.add_mul] at this; omega
    have hfl := flat_len hw
    have hfi : j * w + i < l.flatten.length := by
      rw [hfl]
      have : (j + 1) * w ≤ l.length * w := Nat.mul_le_mul_right _ (by omega)
      rw [Nat.add_mul] at this; omega
    refine ⟨hv, by simp, cs, e, (0, 0), by simpa using hb, by simpa using hlt, by simp, ?_⟩
    simp only [add_zero, stN]
    refine hK _ (step_obj hs ht hb) (.inr ⟨b, _, ha, ht, upd_same _ _ _, by simp [hln], by simp [hc], hle, ?_, ?_⟩)
    · intro y hy
      rcases List.mem_or_eq_of_mem_set hy with h | h
      · exact hw y h
      · rw [h, List.length_set]; exact hw x (List.mem_of_getElem? hj)
    · intro k u hk
      rw [← flat_set hw v hj hi] at hk
      by_cases hkj : j * w + i = k
      · subst hkj
        rw [List.getElem?_set_self hfi] at hk
        rw [Array.getElem?_setIfInBounds_self_of_lt hlt]; exact hk
      · rw [List.getElem?_set_ne hkj] at hk
        rw [Array.getElem?_setIfInBounds_ne hkj]; exact hg k u hk

/-- elements of w cells in memory, wherever -/
def ReadW (ro σ : AH) (w : Nat) (s : Sl) (l : List (List Value)) : Prop := s.len = l.length ∧ (s.a = none → l = []) ∧ (∀ x ∈ l, x.length = w) ∧ ∀ p, s.a = some p → ∀ (i : Nat) (v : Value), l.flatten[i]? = some v → acell ro σ (p.add i) = some v
theorem RowW.read {r : Nat} {e : TypeId} {w : Nat} {s : Sl} {l : List (List Value)} (h : RowW tag σ r e w s l) (hs : Sep ro σ) : ReadW ro σ w s l := by
  refine ⟨h.len, fun hn => ?_, h.wide, fun p hp i v hv => ?_⟩
  · rcases h with ⟨_, rfl⟩ | ⟨b, cs, ha, _⟩
    · rfl
    · rw [hn] at ha; cases ha
  · rcases h with ⟨_, rfl⟩ | ⟨b, cs, ha, ht, hb, _, _, _, _, hg⟩
    · cases hv
    · rw [hp] at ha; cases ha
      unfold acell rd
      simp only [add_add, Nat.zero_add, hs b _ hb, hb, cellOf]
      exact hg i v hv
theorem ReadW.keep {w : Nat} {s : Sl} {l : List (List Value)} (h : ReadW ro (fun _ => none) w s l) : ReadW ro σ w s l := by
  refine ⟨h.1, h.2.1, h.2.2.1, fun p hp i v hv => ?_⟩
  have := h.2.2.2 p hp i v hv
  unfold acell rd at this ⊢
  cases e : ro (p.add i).block with
  | some o => rw [e] at this; exact this
  | none => rw [e] at this; simp [cellOf] at this
theorem ReadW.step {w : Nat} {s : Sl} {l : List (List Value)} (h : ReadW ro σ w s l) (k : Step [] ro tag σ tag' σ') : ReadW ro σ' w s l := by
  refine ⟨h.1, h.2.1, h.2.2.1, fun p hp i v hv => ?_⟩
  have := h.2.2.2 p hp i v hv
  unfold acell rd at this ⊢
  cases e : ro (p.add i).block with
  | some o => rw [e] at this; exact this
  | none =>
    rw [e] at this
    simp only at this ⊢
    cases e2 : σ (p.add i).block with
    | none => rw [e2] at this; simp [cellOf] at this
    | some o => rw [(k.keep _ o e2 (by simp)).2]; rw [e2] at this; exact this

end Go.Proofs.YtfobjidchipdaaaGreatDoor.SL

/- Builtin copy, cap; a row that is made longer in its own room. Generic over any program. -/
namespace Go.Proofs.YtfobjidchipdaaaGreatDoor.SL
open Go
set_option linter.unusedVariables false
set_option linter.unusedSimpArgs false
variable {P : Program} {B : World} {ro σ σ' : AH} {tag tag' : Nat → Nat}

/-- what copy and append read -/
structure Src (P : Program) (ro σ : AH) (x : Value) (l : List Value) : Prop where
  len : ∀ {β : Type} (f : Nat → Sem β) (Q : β → AH → Prop), awp P ro (f l.length) Q σ → awp P ro (Sem.bind (Builtin.lenOf x) f) Q σ
  cells : ∀ {β : Type} (f : Array Value → Sem β) (Q : β → AH → Prop), awp P ro (f l.toArray) Q σ → awp P ro (Sem.bind (Builtin.firstCells 1 l.length x) f) Q σ
theorem Read.src {s : Sl} {l : List Value} (h : Read ro σ s l) : Src P ro σ (Sl.v s) l := by
  refine ⟨fun f Q hf => ?_, fun f Q hf => ?_⟩
  · rw [← h.1] at hf; exact hf
  · unfold Sl.v
    cases hsa : s.a with
    | none =>
      rw [h.2.1 hsa] at hf ⊢
      exact hf
    | some p =>
      rw [show Sem.bind (Builtin.firstCells 1 l.length (.slice (some p) s.len s.cap)) f = (loadCells p (l.length * 1)) >>= f from rfl, awp_bind, Nat.mul_one]
      exact awp_loadCells l 0 #[] (cellsAt_of 0 fun j v hj => by rw [Nat.zero_add]; exact h.2.2 p hsa j v hj) (by simpa using hf)
/-- copy into the end of a row, filling it -/
theorem awp_copyTail {r e t t2 ty : TypeId} {s : Sl} {l l2 : List Value} {m bytes : Nat} {x zv : Value} {Q : Value → AH → Prop} (h : Row tag σ r e s l) (hs : Sep ro σ) (ht : P.underlying t = some (.slice e)) (hz : TyIs P e zv 1 bytes)
    (hx : Src P ro σ x l2) (hm : m + l2.length = l.length) (hv : ∀ v ∈ l2, storable v = true) (hQ : ∀ σ', Step [r] ro tag σ tag σ' → Row tag σ' r e s (l.take m ++ l2) → Q (.int .i64 (l2.length : Int)) σ') :
    awp P ro (Builtin.copy_ #[t, t2] ty #[Sl.v (⟨cutA s.a m s.cap 1, s.len - m, s.cap - m⟩ : Sl), x]) Q σ := by
  have g0 : (#[t, t2] : Array TypeId)[0]? = some t := rfl
  have g1 : (#[Value.slice (cutA s.a m s.cap 1) (s.len - m) (s.cap - m), x] : Array Value)[0]? = some (Value.slice (cutA s.a m s.cap 1) (s.len - m) (s.cap - m)) := rfl
  have g2 : (#[Value.slice (cutA s.a m s.cap 1) (s.len - m) (s.cap - m), x] : Array Value)[1]? = some x := rfl
  have hl := h.len
  unfold Builtin.copy_
  simp only [Sl.v, bind_def, pure_def, g0, g1, g2]
  rw [awp_underlying ht]
  simp only []
  refine hx.len _ _ ?_
  rw [awp_size hz]
  rw [show Nat.min l2.length (s.len - m) = l2.length from Nat.min_eq_left (by omega)]
  refine hx.cells _ _ ?_
  have done : l2 = [] → Q (.int .i64 (l2.length : Int)) σ := fun e0 => hQ σ (Step.refl hs) (by
    rw [e0, List.append_nil, List.take_of_length_le (by rw [e0] at hm; simp at hm; omega)]; exact h)
  rcases h with ⟨rfl, rfl⟩ | ⟨b, cs, ha, htg, hbk, hln, hcp, hle, hg⟩
  · have h0 : l2 = [] := List.eq_nil_of_length_eq_zero (by simp only [List.length_nil] at hm; omega)
    rw [show cutA none m 0 1 = none from by unfold cutA; split <;> rfl]
    exact done h0
  · by_cases h0 : l2 = []
    · unfold cutA
      have := done h0
      subst h0
      split
      · exact this
      · exact this
    · have hpos := List.length_pos_iff.2 h0
      unfold cutA
      rw [if_neg (by omega), ha]
      simp only [Option.map_some, Nat.mul_one, add_add, Nat.zero_add]
      show awp P ro (storeCells ⟨b, m, none⟩ l2 >>= fun _ => Sem.pure (goInt l2.length)) Q σ
      rw [awp_bind]
      refine awp_storeCells l2 0 σ (stN_blk l2 cs 0 σ hbk (by omega) hv fun cs' c1 c2 c3 => ?_)
      refine hQ _ (step_obj hs htg hbk) (.inr ⟨b, cs', ha, htg, upd_same _ _ _, by simp; omega, by rw [c1]; exact hcp, hle, fun i hi => ?_⟩)
      simp at hi
      rcases Nat.lt_or_ge i m with hh | hh
      · rw [c2 i (by omega), List.getElem?_append_left (by simp; omega), List.getElem?_take, if_pos hh]; exact hg i (by omega)
      · have e1 : (l.take m).length = m := by simp; omega
        rw [List.getElem?_append_right (by omega), e1]
        have := c3 (i - m) _ (List.getElem?_eq_getElem (by omega))
        rw [List.getElem?_eq_getElem (by omega), ← this]
        congr 1; omega
theorem Row.capAt {r : Nat} {e : TypeId} {s : Sl} {l : List Value} (h : Row tag σ r e s l) : l.length ≤ s.cap := by
  rcases h with ⟨rfl, rfl⟩ | ⟨b, cs, ha, htg, hbk, hln, hcp, hle, hg⟩
  · simp
  · omega
theorem cutA_zero (a : Option Addr) (c s : Nat) : cutA a 0 c s = a := by
  unfold cutA; split
  · rfl
  · cases a <;> simp [Nat.zero_mul, add_zero]
end Go.Proofs.YtfobjidchipdaaaGreatDoor.SL

/- A map that is ranged over while nothing is put into it. Generic over any program. -/
namespace Go.Proofs.YtfobjidchipdaaaGreatDoor.SL
open Go
set_option linter.unusedVariables false
set_option linter.unusedSimpArgs false
variable {P : Program} {B : World} {ro σ σ' : AH} {tag tag' : Nat → Nat}

theorem awp_choose2 {β : Type} {q : Question} {f : Nat → Sem β} {Q : β → AH → Prop} (h0 : q.forced = true → awp P ro (f 0) Q σ) (h1 : q.forced = false → ∀ n, awp P ro (f (q.cut n)) Q σ) : awp P ro (Sem.bind (choose q) f) Q σ := by
  show (if q.forced then awp P ro (f 0) Q σ else ∀ n, awp P ro (f (q.cut n)) Q σ)
  split
  · rename_i h; exact h0 h
  · rename_i h; exact h1 (by simpa using h)
theorem awp_range_map {t kt et : TypeId} {r M : Nat} {m : KV} {K : Value → AH → Prop} (ht : P.underlying t = some (.map kt et)) (hm : MapIs tag σ r M m) (hs : Sep ro σ)
    (hK : ∀ (es : Array MapEntry) (clock x : Nat), σ M = some (.map es clock) → es.toList.map entV = m.map pairV → Born es clock → ro x = none → σ x = none → K (.pointer (some ⟨x, 0, none⟩)) (upd σ x (.mapIter (some M) clock #[] clock))) :
    awp P ro (Instr.range t (.map (some M))) K σ := by
  obtain ⟨es, clock, hb, he, hbn⟩ := hm.obj
  unfold Instr.range
  simp only [bind_def]
  rw [awp_underlying ht]
  refine ⟨.map es clock, by unfold rd; rw [hs M _ hb]; exact hb, rfl, ?_⟩
  intro x hro hx
  exact hK es clock x hb he hbn hro hx
theorem awp_next_map {ty : TypeId} {x M clock : Nat} {seen : Array Nat} {es : Array MapEntry} {K : Value → AH → Prop} (hx : σ x = some (.mapIter (some M) clock seen clock)) (hm : σ M = some (.map es clock)) (hs : Sep ro σ) (hb : Born es clock)
    (hover : (∀ e ∈ es.toList, seen.contains e.born = true) → K (.tuple #[.bool false]) σ)
    (hstep : ∀ e ∈ es.toList, seen.contains e.born = false → K (.tuple #[.bool true, e.key, e.val]) (upd σ x (.mapIter (some M) clock (seen.push e.born) clock))) :
    awp P ro (Instr.next (.pointer (some ⟨x, 0, none⟩)) false ty) K σ := by
  unfold Instr.next
  refine ⟨.mapIter (some M) clock seen clock, by unfold rd; rw [hs x _ hx]; exact hx, rfl, ?_⟩
  refine ⟨.map es clock, by unfold rd; rw [hs M _ hm]; exact hm, rfl, ?_⟩
  have hall : (!seen.isEmpty && !es.isEmpty && es.all fun e => decide (e.born ≥ clock)) = false := by
    cases he : es.isEmpty with
    | true => simp
    | false =>
      have hne : 0 < es.size := by
        rcases Nat.eq_zero_or_pos es.size with h | h
        · have : es = #[] := Array.eq_empty_of_size_eq_zero h
          rw [this] at he; cases he
        · exact h
      have h0 := hb.lt es[0] (by simp)
      have : (es.all fun e => decide (e.born ≥ clock)) = false := by
        rw [← Bool.not_eq_true, Array.all_eq_true]
        intro h
        have := h 0 hne
        simp only [decide_eq_true_eq] at this
        omega
      rw [this]; simp
  show awp P ro (if _ then _ else _) K σ
  rw [if_neg (by rw [hall]; simp)]
  have hold : ((es.filter fun e => !seen.contains e.born).filter fun e => decide (e.born < clock)) = es.filter fun e => !seen.contains e.born := by
    rw [Array.filter_eq_self]
    intro e he
    have := hb.lt e (by have := (Array.mem_filter.1 he).1; simpa using this)
    simpa using this
  have hnew : ((es.filter fun e => !seen.contains e.born).filter fun e => decide (e.born ≥ clock)) = #[] := by
    rw [Array.filter_eq_empty_iff]
    intro e he
    have := hb.lt e (by have := (Array.mem_filter.1 he).1; simpa using this)
    simp; omega
  simp only [hold, hnew, Array.append_empty]
  generalize hleft : (es.filter fun e => !seen.contains e.born) = left
  have hmem : ∀ e, e ∈ left ↔ e ∈ es.toList ∧ seen.contains e.born = false := fun e => by
    rw [← hleft, Array.mem_filter]; simp
  by_cases hemp : left = #[]
  · subst hemp
    have e1 : ((if (#[] : Array MapEntry).isEmpty = true then (#[none] : Array (Option MapEntry)) else #[]) ++ (#[] : Array MapEntry).map some) = #[none] := by simp
    rw [e1]
    refine awp_choose2 (fun _ => ?_) (fun h => absurd h (by decide))
    show K (Value.tuple #[.bool false]) σ
    refine hover fun e he => ?_
    cases h : seen.contains e.born with
    | true => rfl
    | false => exact absurd ((hmem e).2 ⟨he, h⟩) (by simp)
  · have hsz : 0 < left.size := by
      rcases Nat.eq_zero_or_pos left.size with h | h
      · exact absurd (Array.eq_empty_of_size_eq_zero h) hemp
      · exact h
    have hie : left.isEmpty = false := by simp [Array.isEmpty]; omega
    rw [if_neg (by rw [hie]; simp)]
    have hcand : (#[] : Array (Option MapEntry)) ++ left.map some = left.map some := by simp
    rw [hcand]
    have step : ∀ i, i < left.size → awp P ro (match (left.map some)[i]? with
        | some (some e) => Sem.bind (setObj x (.mapIter (some M) clock (seen.push e.born) clock)) fun _ => Sem.pure (Value.tuple #[.bool true, e.key, e.val])
        | some none => Sem.pure (Value.tuple #[.bool false])
        | none => stuck "Next: no such candidate") K σ := fun i hi => by
      rw [Array.getElem?_map, Array.getElem?_eq_getElem hi]
      simp only [Option.map_some]
      have hin := (hmem left[i]).1 (Array.getElem_mem hi)
      exact ⟨.mapIter (some M) clock seen clock, hx, rfl, hstep left[i] hin.1 hin.2⟩
    refine awp_choose2 (fun _ => step 0 hsz) (fun _ n => step _ ?_)
    simp only [Question.cut, Array.size_map]
    exact Nat.mod_lt _ hsz
theorem awp_entry_map {x M clock : Nat} {seen : Array Nat} {es : Array MapEntry} {e : MapEntry} {K : Value → AH → Prop} (hx : σ x = some (.mapIter (some M) clock (seen.push e.born) clock)) (hm : σ M = some (.map es clock)) (hs : Sep ro σ) (hb : Born es clock) (he : e ∈ es.toList)
    (hK : K (.tuple #[e.key, e.val]) σ) : awp P ro (Instr.entry (.pointer (some ⟨x, 0, none⟩))) K σ := by
  have hfind : es.find? (·.born == e.born) = some e := by
    rw [← Array.find?_toList]
    have hnd := hb.nd
    have hin := he
    generalize es.toList = l at hnd hin
    induction l with
    | nil => cases hin
    | cons y l ih =>
      simp only [List.map_cons, List.nodup_cons] at hnd
      rw [List.find?_cons]
      rcases List.mem_cons.1 hin with h | h
      · rw [h]; simp
      · have hne : y.born ≠ e.born := fun hh => hnd.1 (List.mem_map.2 ⟨e, h, hh.symm⟩)
        rw [show (y.born == e.born) = false by simpa using hne]
        exact ih hnd.2 h
  unfold Instr.entry
  refine ⟨.mapIter (some M) clock (seen.push e.born) clock, by unfold rd; rw [hs x _ hx]; exact hx, rfl, ?_⟩
  simp only [bind_pure', Array.back?_push]
  refine ⟨.map es clock, by unfold rd; rw [hs M _ hm]; exact hm, rfl, ?_⟩
  show awp P ro (if _ then _ else _) K σ
  rw [if_neg (by simp)]
  show awp P ro (match es.find? (·.born == e.born) with | some e => _ | none => _) K σ
  rw [hfind]
  exact hK
end Go.Proofs.YtfobjidchipdaaaGreatDoor.SL

/- The base, eleventh part: a slice expression with three indexes. Generic over any program. -/
namespace Go.Proofs.YtfobjidchipdaaaGreatDoor.SL
open Go
set_option linter.unusedVariables false
variable {P : Program} {B : World} {ro σ : AH} {o : Oper} {fr : Fr} {x : Operand}
/-- where a cut with three indexes is right -/
def cutOk3 (lo : Option Int) (hi mx : Int) (cap : Nat) : Prop := (0 ≤ mx ∧ mx ≤ cap) ∧ (0 ≤ hi ∧ hi ≤ mx) ∧ (match lo with | some i => 0 ≤ i ∧ i ≤ hi | none => True)
theorem V_slL3 {t e : TypeId} {a : Option Operand} {yb ym : Operand} {lo : Option Int} {hi mx : Int} {kb km : IntKind} {ad : Option Addr} {n c : Nat} {zv : Value} {s bt : Nat} (ho : o.op = .slice t x a (some yb) (some ym)) (ht : P.underlying t = some (.slice e)) (hz : TyIs P e zv s bt) (hx : evalF fr x = some (.slice ad n c)) (ha : optI fr a lo)
    (hb : evalF fr yb = some (.int kb hi)) (hm : evalF fr ym = some (.int km mx)) (h : cutOk3 lo hi mx c) :
    PureEv P ro o fr (.slice (cutA ad (cutLo lo) mx.toNat s) (hi.toNat - cutLo lo) (mx.toNat - cutLo lo)) := by
  intro ρ hρ
  have e' : execOp ρ o = (do pure (.value (← Instr.sliceAt t (.slice ad n c) (a.map ρ) (some (.int kb hi)) (some (.int km mx))))) := by
    unfold execOp; rw [ho]; simp only [hρ _ _ hx]
    show (do pure (.value (← Instr.sliceAt t (.slice ad n c) (a.map ρ) ((some yb).map ρ) ((some ym).map ρ))) : Sem Next) = _
    simp only [Option.map_some, hρ _ _ hb, hρ _ _ hm]
  rw [e']
  obtain ⟨h1, h2, h3⟩ := h
  show aread P ro (Sem.bind (Instr.sliceAt t (.slice ad n c) (a.map ρ) (some (.int kb hi)) (some (.int km mx))) _) _ = _
  unfold Instr.sliceAt
  simp only [bind_def, bind_assoc']
  rw [underlying_bind _ _ ht]; dsimp only
  unfold Instr.slice
  simp only [bind_def, bind_assoc']
  rw [underlying_bind _ _ ht]; dsimp only
  simp only [bind_assoc', pure_def, bind_pure']
  unfold Instr.sliceBounds
  simp only [bind_def, pure_def, bind_pure', bind_assoc']
  rw [bound_aread h1.1 h1.2]
  rw [bound_aread h2.1 (by omega)]
  rcases optI_agrees hρ ha with ⟨rfl, rfl⟩ | ⟨k, j, rfl, ha'⟩
  · dsimp only [Option.map_none]
    simp only [bind_pure']
    rw [aread_size hz]; rfl
  · rw [ha']; dsimp only at h3 ⊢
    simp only [bind_assoc']
    rw [bound_aread h3.1 (by omega)]
    try simp only [bind_pure']
    rw [aread_size hz]; rfl
end Go.Proofs.YtfobjidchipdaaaGreatDoor.SL

/- Facts of the types that the printed functions use. Printed by wip/tools/gen.py. -/
namespace Go.Proofs.YtfobjidchipdaaaGreatDoor.G
open Go Go.Proofs.YtfobjidchipdaaaGreatDoor.SL
set_option linter.unusedVariables false
set_option linter.unusedSimpArgs false

theorem _root_.Go.Proofs.Tryz.mixed : Tryz.prog.follows .mixedOrders = true := by kernel_rfl
theorem ty3 : TyIs Tryz.prog 3 (.int .i64 0) 1 8 := TyIs.of (by kernel_rfl)
theorem ty5 : TyIs Tryz.prog 5 (.int .u8 0) 1 1 := TyIs.of (by kernel_rfl)
theorem ty9 : TyIs Tryz.prog 9 (.string ByteArray.empty) 1 16 := TyIs.of (by kernel_rfl)
theorem ty22 : TyIs Tryz.prog 22 (.slice none 0 0) 1 24 := TyIs.of (by kernel_rfl)
theorem ty23 : TyIs Tryz.prog 23 (.slice none 0 0) 1 24 := TyIs.of (by kernel_rfl)
theorem ty27 : TyIs Tryz.prog 27 (.int .i64 0) 1 8 := TyIs.of (by kernel_rfl)
theorem ty37 : TyIs Tryz.prog 37 (.map none) 1 8 := TyIs.of (by kernel_rfl)
theorem ty39 : TyIs Tryz.prog 39 (.agg #[.map none, .int .i64 0]) 2 16 := TyIs.of (by kernel_rfl)
theorem ty85 : TyIs Tryz.prog 85 (.agg #[.string ByteArray.empty, .slice none 0 0]) 2 40 := TyIs.of (by kernel_rfl)
theorem ty87 : TyIs Tryz.prog 87 (.agg #[.int .i64 0, .int .i64 0]) 2 16 := TyIs.of (by kernel_rfl)
theorem ty90 : TyIs Tryz.prog 90 (.agg #[.int .i64 0, .int .i64 0, .int .i64 0]) 3 24 := TyIs.of (by kernel_rfl)
theorem ty102 : TyIs Tryz.prog 102 (.pointer none) 1 8 := TyIs.of (by kernel_rfl)
theorem ty104 : TyIs Tryz.prog 104 (.agg #[.slice none 0 0, .int .i64 0]) 2 32 := TyIs.of (by kernel_rfl)
theorem ty190 : TyIs Tryz.prog 190 (.agg #[.slice none 0 0, .int .i64 0]) 2 32 := TyIs.of (by kernel_rfl)
theorem pl39 : placesOk Tryz.prog [{ name := "table", type := 37, offset := 0, embedded := true, tag := "", pkgPath := "althing/disk", byteOffset := 0 }, { name := "capacity", type := 3, offset := 1, embedded := false, tag := "", pkgPath := "althing/disk", byteOffset := 8 }] [(0, 1), (1, 1)] := ⟨⟨rfl, _, _, ty37⟩, ⟨⟨rfl, _, _, ty3⟩, trivial⟩⟩
theorem pl85 : placesOk Tryz.prog [{ name := "name", type := 9, offset := 0, embedded := false, tag := "", pkgPath := "althing/snap", byteOffset := 0 }, { name := "b", type := 22, offset := 1, embedded := false, tag := "", pkgPath := "althing/snap", byteOffset := 16 }] [(0, 1), (1, 1)] := ⟨⟨rfl, _, _, ty9⟩, ⟨⟨rfl, _, _, ty22⟩, trivial⟩⟩
theorem pl87 : placesOk Tryz.prog [{ name := "length", type := 3, offset := 0, embedded := false, tag := "", pkgPath := "althing/snap", byteOffset := 0 }, { name := "sum", type := 3, offset := 1, embedded := false, tag := "", pkgPath := "althing/snap", byteOffset := 8 }] [(0, 1), (1, 1)] := ⟨⟨rfl, _, _, ty3⟩, ⟨⟨rfl, _, _, ty3⟩, trivial⟩⟩
theorem pl90 : placesOk Tryz.prog [{ name := "digest", type := 87, offset := 0, embedded := true, tag := "", pkgPath := "althing/snap", byteOffset := 0 }, { name := "number", type := 3, offset := 2, embedded := false, tag := "", pkgPath := "althing/snap", byteOffset := 16 }] [(0, 2), (2, 1)] := ⟨⟨rfl, _, _, ty87⟩, ⟨⟨rfl, _, _, ty3⟩, trivial⟩⟩
theorem pl104 : placesOk Tryz.prog [{ name := "b", type := 22, offset := 0, embedded := false, tag := "", pkgPath := "althing/disk", byteOffset := 0 }, { name := "safe", type := 3, offset := 1, embedded := false, tag := "", pkgPath := "althing/disk", byteOffset := 24 }] [(0, 1), (1, 1)] := ⟨⟨rfl, _, _, ty22⟩, ⟨⟨rfl, _, _, ty3⟩, trivial⟩⟩
theorem pl190 : placesOk Tryz.prog [{ name := "b", type := 22, offset := 0, embedded := false, tag := "", pkgPath := "althing/wire", byteOffset := 0 }, { name := "err", type := 27, offset := 1, embedded := false, tag := "", pkgPath := "althing/wire", byteOffset := 24 }] [(0, 1), (1, 1)] := ⟨⟨rfl, _, _, ty22⟩, ⟨⟨rfl, _, _, ty27⟩, trivial⟩⟩
end Go.Proofs.YtfobjidchipdaaaGreatDoor.G

/- What it means to call each function: printed by wip/tools/gen.py. -/
namespace Go.Proofs.YtfobjidchipdaaaGreatDoor.G
open Go Go.Proofs.YtfobjidchipdaaaGreatDoor.SL
set_option linter.unusedVariables false
set_option linter.unusedSimpArgs false

/-- althing/althinglaw05.SnapKeeps -/
def c_law05_SnapKeeps (B : World) (ro : AH) (a0_0 : Int) (a0_1 : Sl) (a0_2 : Sl) (a0_3 : Sl) (σ : AH) (Q : Bool → AH → Prop) : Prop :=
  ACalls Tryz.prog B ro 3 #[.agg #[.int .i64 a0_0, Sl.v a0_1, Sl.v a0_2, Sl.v a0_3]] σ fun v σ => ∃ (r0 : Bool), v = .bool r0 ∧ Q r0 σ
/-- althing/disk.New -/
def c_disk_New (B : World) (ro : AH) (a0 : Int) (σ : AH) (Q : Option Addr → Int → AH → Prop) : Prop :=
  ACalls Tryz.prog B ro 9 #[.int .i64 a0] σ fun v σ => ∃ (r0 : Option Addr) (r1 : Int), v = .tuple #[.pointer r0, .int .i64 r1] ∧ Q r0 r1 σ
/-- althing/althinglaw05.awake -/
def c_law05_awake (B : World) (ro : AH) (σ : AH) (Q : Bool → AH → Prop) : Prop :=
  ACalls Tryz.prog B ro 10 #[] σ fun v σ => ∃ (r0 : Bool), v = .bool r0 ∧ Q r0 σ
theorem c_law05_awake_mono {B : World} {ro : AH} {σ : AH} {Q Q' : Bool → AH → Prop} (h : c_law05_awake B ro σ Q) (hq : ∀ r0 σ, Sep ro σ → Q r0 σ → Q' r0 σ) : c_law05_awake B ro σ Q' :=
  ACalls.monoS h fun v σ hs ⟨r0, hv, q⟩ => ⟨r0, hv, hq _ σ hs q⟩
/-- althing/snap.Save -/
def c_snap_Save (B : World) (ro : AH) (a0 : Option Addr) (a1 : ByteArray) (a2 : Int) (a3 : Sl) (σ : AH) (Q : Int → AH → Prop) : Prop :=
  ACalls Tryz.prog B ro 11 #[.pointer a0, .string a1, .int .i64 a2, Sl.v a3] σ fun v σ => ∃ (r0 : Int), v = .int .i64 r0 ∧ Q r0 σ
/-- althing/althingref01.Copy -/
def c_ref01_Copy (B : World) (ro : AH) (a0 : Sl) (σ : AH) (Q : Sl → AH → Prop) : Prop :=
  ACalls Tryz.prog B ro 12 #[Sl.v a0] σ fun v σ => ∃ (r0 : Sl), v = Sl.v r0 ∧ Q r0 σ
/-- althing/snap.Load -/
def c_snap_Load (B : World) (ro : AH) (a0 : Option Addr) (a1 : ByteArray) (σ : AH) (Q : Int → Sl → Bool → Int → AH → Prop) : Prop :=
  ACalls Tryz.prog B ro 13 #[.pointer a0, .string a1] σ fun v σ => ∃ (r0 : Int) (r1 : Sl) (r2 : Bool) (r3 : Int), v = .tuple #[.int .i64 r0, Sl.v r1, .bool r2, .int .i64 r3] ∧ Q r0 r1 r2 r3 σ
theorem c_snap_Load_mono {B : World} {ro : AH} {a0 : Option Addr} {a1 : ByteArray} {σ : AH} {Q Q' : Int → Sl → Bool → Int → AH → Prop} (h : c_snap_Load B ro a0 a1 σ Q) (hq : ∀ r0 r1 r2 r3 σ, Sep ro σ → Q r0 r1 r2 r3 σ → Q' r0 r1 r2 r3 σ) : c_snap_Load B ro a0 a1 σ Q' :=
  ACalls.monoS h fun v σ hs ⟨r0, r1, r2, r3, hv, q⟩ => ⟨r0, r1, r2, r3, hv, hq _ _ _ _ σ hs q⟩
/-- (althing/disk.table).Used -/
def c_disk_table_Used (B : World) (ro : AH) (a0 : Option Nat) (σ : AH) (Q : Int → AH → Prop) : Prop :=
  ACalls Tryz.prog B ro 14 #[.map a0] σ fun v σ => ∃ (r0 : Int), v = .int .i64 r0 ∧ Q r0 σ
/-- (*althing/disk.Disk).Crash -/
def c_disk_Disk_Crash (B : World) (ro : AH) (a0 : Option Addr) (a1 : Sl) (σ : AH) (Q : AH → Prop) : Prop :=
  ACalls Tryz.prog B ro 15 #[.pointer a0, Sl.v a1] σ fun v σ => v = .tuple #[] ∧ Q σ
/-- althing/althingref01.CopyInts -/
def c_ref01_CopyInts (B : World) (ro : AH) (a0 : Sl) (σ : AH) (Q : Sl → AH → Prop) : Prop :=
  ACalls Tryz.prog B ro 16 #[Sl.v a0] σ fun v σ => ∃ (r0 : Sl), v = Sl.v r0 ∧ Q r0 σ
/-- althing/althingref01.Same -/
def c_ref01_Same (B : World) (ro : AH) (a0 : Sl) (a1 : Sl) (σ : AH) (Q : Bool → AH → Prop) : Prop :=
  ACalls Tryz.prog B ro 17 #[Sl.v a0, Sl.v a1] σ fun v σ => ∃ (r0 : Bool), v = .bool r0 ∧ Q r0 σ
/-- althing/snap.dataFile -/
def c_snap_dataFile (B : World) (ro : AH) (a0 : ByteArray) (a1 : Int) (σ : AH) (Q : ByteArray → AH → Prop) : Prop :=
  ACalls Tryz.prog B ro 38 #[.string a0, .int .i64 a1] σ fun v σ => ∃ (r0 : ByteArray), v = .string r0 ∧ Q r0 σ
/-- althing/snap.Save$1 -/
def c_snap_Save_c1 (B : World) (ro : AH) (a0 : Addr) (a1 : Addr) (a2 : Addr) (σ : AH) (Q : AH → Prop) : Prop :=
  ACalls Tryz.prog B ro 39 #[.pointer (some a0), .pointer (some a1), .pointer (some a2)] σ fun v σ => v = .tuple #[] ∧ Q σ
/-- (*althing/disk.Disk).Remove -/
def c_disk_Disk_Remove (B : World) (ro : AH) (a0 : Option Addr) (a1 : Sl) (σ : AH) (Q : Int → AH → Prop) : Prop :=
  ACalls Tryz.prog B ro 40 #[.pointer a0, Sl.v a1] σ fun v σ => ∃ (r0 : Int), v = .int .i64 r0 ∧ Q r0 σ
/-- althing/snap.digestOf -/
def c_snap_digestOf (B : World) (ro : AH) (a0 : Sl) (σ : AH) (Q : Int → Int → AH → Prop) : Prop :=
  ACalls Tryz.prog B ro 41 #[Sl.v a0] σ fun v σ => ∃ (r0_0 : Int) (r0_1 : Int), v = .agg #[.int .i64 r0_0, .int .i64 r0_1] ∧ Q r0_0 r0_1 σ
/-- (althing/snap.manifest).bytes -/
def c_snap_manifest_bytes (B : World) (ro : AH) (a0_0 : Int) (a0_1 : Int) (a0_2 : Int) (σ : AH) (Q : Sl → AH → Prop) : Prop :=
  ACalls Tryz.prog B ro 42 #[.agg #[.int .i64 a0_0, .int .i64 a0_1, .int .i64 a0_2]] σ fun v σ => ∃ (r0 : Sl), v = Sl.v r0 ∧ Q r0 σ
/-- (*althing/disk.Disk).Append -/
def c_disk_Disk_Append (B : World) (ro : AH) (a0 : Option Addr) (a1 : ByteArray) (a2 : Sl) (σ : AH) (Q : Int → AH → Prop) : Prop :=
  ACalls Tryz.prog B ro 43 #[.pointer a0, .string a1, Sl.v a2] σ fun v σ => ∃ (r0 : Int), v = .int .i64 r0 ∧ Q r0 σ
/-- (*althing/disk.Disk).Sync -/
def c_disk_Disk_Sync (B : World) (ro : AH) (a0 : Option Addr) (a1 : Sl) (σ : AH) (Q : Int → AH → Prop) : Prop :=
  ACalls Tryz.prog B ro 44 #[.pointer a0, Sl.v a1] σ fun v σ => ∃ (r0 : Int), v = .int .i64 r0 ∧ Q r0 σ
/-- (*althing/disk.Disk).Rename -/
def c_disk_Disk_Rename (B : World) (ro : AH) (a0 : Option Addr) (a1 : ByteArray) (a2 : ByteArray) (σ : AH) (Q : Int → AH → Prop) : Prop :=
  ACalls Tryz.prog B ro 45 #[.pointer a0, .string a1, .string a2] σ fun v σ => ∃ (r0 : Int), v = .int .i64 r0 ∧ Q r0 σ
/-- (althing/disk.table).Files -/
def c_disk_table_Files (B : World) (ro : AH) (a0 : Option Nat) (σ : AH) (Q : Sl → AH → Prop) : Prop :=
  ACalls Tryz.prog B ro 46 #[.map a0] σ fun v σ => ∃ (r0 : Sl), v = Sl.v r0 ∧ Q r0 σ
/-- althing/snap.isData -/
def c_snap_isData (B : World) (ro : AH) (a0 : ByteArray) (a1 : ByteArray) (σ : AH) (Q : Bool → AH → Prop) : Prop :=
  ACalls Tryz.prog B ro 47 #[.string a0, .string a1] σ fun v σ => ∃ (r0 : Bool), v = .bool r0 ∧ Q r0 σ
/-- althing/althingref01.Join -/
def c_ref01_Join (B : World) (ro : AH) (a0 : Sl) (σ : AH) (Q : Sl → AH → Prop) : Prop :=
  ACalls Tryz.prog B ro 48 #[Sl.v a0] σ fun v σ => ∃ (r0 : Sl), v = Sl.v r0 ∧ Q r0 σ
/-- althing/snap.rightName -/
def c_snap_rightName (B : World) (ro : AH) (a0 : ByteArray) (σ : AH) (Q : Bool → AH → Prop) : Prop :=
  ACalls Tryz.prog B ro 49 #[.string a0] σ fun v σ => ∃ (r0 : Bool), v = .bool r0 ∧ Q r0 σ
/-- althing/snap.readManifest -/
def c_snap_readManifest (B : World) (ro : AH) (a0 : Option Addr) (a1 : ByteArray) (σ : AH) (Q : Int → Int → Int → Bool → AH → Prop) : Prop :=
  ACalls Tryz.prog B ro 50 #[.pointer a0, .string a1] σ fun v σ => ∃ (r0_0 : Int) (r0_1 : Int) (r0_2 : Int) (r1 : Bool), v = .tuple #[.agg #[.int .i64 r0_0, .int .i64 r0_1, .int .i64 r0_2], .bool r1] ∧ Q r0_0 r0_1 r0_2 r1 σ
/-- (*althing/disk.Disk).Read -/
def c_disk_Disk_Read (B : World) (ro : AH) (a0 : Option Addr) (a1 : ByteArray) (σ : AH) (Q : Sl → Int → AH → Prop) : Prop :=
  ACalls Tryz.prog B ro 51 #[.pointer a0, .string a1] σ fun v σ => ∃ (r0 : Sl) (r1 : Int), v = .tuple #[Sl.v r0, .int .i64 r1] ∧ Q r0 r1 σ
/-- bytes.Clone -/
def c_bytes_Clone (B : World) (ro : AH) (a0 : Sl) (σ : AH) (Q : Sl → AH → Prop) : Prop :=
  ACalls Tryz.prog B ro 74 #[Sl.v a0] σ fun v σ => ∃ (r0 : Sl), v = Sl.v r0 ∧ Q r0 σ
/-- strconv.Itoa -/
def c_strconv_Itoa (B : World) (ro : AH) (a0 : Int) (σ : AH) (Q : ByteArray → AH → Prop) : Prop :=
  ACalls Tryz.prog B ro 75 #[.int .i64 a0] σ fun v σ => ∃ (r0 : ByteArray), v = .string r0 ∧ Q r0 σ
/-- (althing/disk.table).find -/
def c_disk_table_find (B : World) (ro : AH) (a0 : Option Nat) (a1 : Sl) (σ : AH) (Q : Sl → Int → AH → Prop) : Prop :=
  ACalls Tryz.prog B ro 76 #[.map a0, Sl.v a1] σ fun v σ => ∃ (r0 : Sl) (r1 : Int), v = .tuple #[Sl.v r0, .int .i64 r1] ∧ Q r0 r1 σ
/-- althing/wire.Sum -/
def c_wire_Sum (B : World) (ro : AH) (a0 : Sl) (σ : AH) (Q : Int → AH → Prop) : Prop :=
  ACalls Tryz.prog B ro 77 #[Sl.v a0] σ fun v σ => ∃ (r0 : Int), v = .int .i64 r0 ∧ Q r0 σ
/-- althing/wire.Numbers -/
def c_wire_Numbers (B : World) (ro : AH) (a0 : Sl) (σ : AH) (Q : Sl → Int → AH → Prop) : Prop :=
  ACalls Tryz.prog B ro 78 #[Sl.v a0] σ fun v σ => ∃ (r0 : Sl) (r1 : Int), v = .tuple #[Sl.v r0, .int .i64 r1] ∧ Q r0 r1 σ
/-- althing/wire.Frame -/
def c_wire_Frame (B : World) (ro : AH) (a0 : Sl) (σ : AH) (Q : Sl → Int → AH → Prop) : Prop :=
  ACalls Tryz.prog B ro 79 #[Sl.v a0] σ fun v σ => ∃ (r0 : Sl) (r1 : Int), v = .tuple #[Sl.v r0, .int .i64 r1] ∧ Q r0 r1 σ
/-- althing/disk.rightName -/
def c_disk_rightName (B : World) (ro : AH) (a0 : ByteArray) (σ : AH) (Q : Bool → AH → Prop) : Prop :=
  ACalls Tryz.prog B ro 80 #[.string a0] σ fun v σ => ∃ (r0 : Bool), v = .bool r0 ∧ Q r0 σ
/-- slices.Sorted[string] -/
def c_slices_Sorted_string (B : World) (ro : AH) (a0 : Value) (σ : AH) (Q : Sl → AH → Prop) : Prop :=
  ACalls Tryz.prog B ro 81 #[a0] σ fun v σ => ∃ (r0 : Sl), v = Sl.v r0 ∧ Q r0 σ
/-- maps.Keys[althing/disk.table,string,*althing/disk.file] -/
def c_maps_Keys_disk_file (B : World) (ro : AH) (a0 : Option Nat) (σ : AH) (Q : Value → AH → Prop) : Prop :=
  ACalls Tryz.prog B ro 82 #[.map a0] σ fun v σ => ∃ (r0 : Value), v = r0 ∧ Q r0 σ
/-- strings.CutPrefix -/
def c_strings_CutPrefix (B : World) (ro : AH) (a0 : ByteArray) (a1 : ByteArray) (σ : AH) (Q : ByteArray → Bool → AH → Prop) : Prop :=
  ACalls Tryz.prog B ro 83 #[.string a0, .string a1] σ fun v σ => ∃ (r0 : ByteArray) (r1 : Bool), v = .tuple #[.string r0, .bool r1] ∧ Q r0 r1 σ
/-- strconv.Atoi -/
def c_strconv_Atoi (B : World) (ro : AH) (a0 : ByteArray) (σ : AH) (Q : Int → Value → AH → Prop) : Prop :=
  ACalls Tryz.prog B ro 84 #[.string a0] σ fun v σ => ∃ (r0 : Int) (r1 : Value), v = .tuple #[.int .i64 r0, r1] ∧ Q r0 r1 σ
/-- strings.Trim -/
def c_strings_Trim (B : World) (ro : AH) (a0 : ByteArray) (a1 : ByteArray) (σ : AH) (Q : ByteArray → AH → Prop) : Prop :=
  ACalls Tryz.prog B ro 85 #[.string a0, .string a1] σ fun v σ => ∃ (r0 : ByteArray), v = .string r0 ∧ Q r0 σ
/-- althing/wire.Unframe -/
def c_wire_Unframe (B : World) (ro : AH) (a0 : Sl) (a1 : Int) (σ : AH) (Q : Sl → Int → Int → AH → Prop) : Prop :=
  ACalls Tryz.prog B ro 86 #[Sl.v a0, .int .i64 a1] σ fun v σ => ∃ (r0 : Sl) (r1 : Int) (r2 : Int), v = .tuple #[Sl.v r0, .int .i64 r1, .int .i64 r2] ∧ Q r0 r1 r2 σ
/-- althing/wire.NewReader -/
def c_wire_NewReader (B : World) (ro : AH) (a0 : Sl) (σ : AH) (Q : Option Addr → AH → Prop) : Prop :=
  ACalls Tryz.prog B ro 87 #[Sl.v a0] σ fun v σ => ∃ (r0 : Option Addr), v = .pointer r0 ∧ Q r0 σ
/-- (*althing/wire.Reader).Num -/
def c_wire_Reader_Num (B : World) (ro : AH) (a0 : Option Addr) (σ : AH) (Q : Int → AH → Prop) : Prop :=
  ACalls Tryz.prog B ro 88 #[.pointer a0] σ fun v σ => ∃ (r0 : Int), v = .int .i64 r0 ∧ Q r0 σ
/-- (*althing/wire.Reader).Err -/
def c_wire_Reader_Err (B : World) (ro : AH) (a0 : Option Addr) (σ : AH) (Q : Int → AH → Prop) : Prop :=
  ACalls Tryz.prog B ro 89 #[.pointer a0] σ fun v σ => ∃ (r0 : Int), v = .int .i64 r0 ∧ Q r0 σ
/-- (*althing/wire.Reader).Left -/
def c_wire_Reader_Left (B : World) (ro : AH) (a0 : Option Addr) (σ : AH) (Q : Int → AH → Prop) : Prop :=
  ACalls Tryz.prog B ro 90 #[.pointer a0] σ fun v σ => ∃ (r0 : Int), v = .int .i64 r0 ∧ Q r0 σ
/-- althing/wire.Number -/
def c_wire_Number (B : World) (ro : AH) (a0 : Sl) (a1 : Int) (σ : AH) (Q : Int → Int → Int → AH → Prop) : Prop :=
  ACalls Tryz.prog B ro 97 #[Sl.v a0, .int .i64 a1] σ fun v σ => ∃ (r0 : Int) (r1 : Int) (r2 : Int), v = .tuple #[.int .i64 r0, .int .i64 r1, .int .i64 r2] ∧ Q r0 r1 r2 σ
/-- althing/wire.right -/
def c_wire_right (B : World) (ro : AH) (a0 : Int) (σ : AH) (Q : Bool → AH → Prop) : Prop :=
  ACalls Tryz.prog B ro 102 #[.int .i64 a0] σ fun v σ => ∃ (r0 : Bool), v = .bool r0 ∧ Q r0 σ
/-- althing/wire.put -/
def c_wire_put (B : World) (ro : AH) (a0 : Sl) (a1 : Int) (σ : AH) (Q : Sl → AH → Prop) : Prop :=
  ACalls Tryz.prog B ro 103 #[Sl.v a0, .int .i64 a1] σ fun v σ => ∃ (r0 : Sl), v = Sl.v r0 ∧ Q r0 σ
/-- althing/wire.four -/
def c_wire_four (B : World) (ro : AH) (a0 : Int) (σ : AH) (Q : Sl → AH → Prop) : Prop :=
  ACalls Tryz.prog B ro 104 #[.int .i64 a0] σ fun v σ => ∃ (r0 : Sl), v = Sl.v r0 ∧ Q r0 σ
/-- slices.ContainsFunc[[]byte,byte] -/
def c_slices_ContainsFunc_byte_byte (B : World) (ro : AH) (a0 : Sl) (a1 : Value) (σ : AH) (Q : Bool → AH → Prop) : Prop :=
  ACalls Tryz.prog B ro 105 #[Sl.v a0, a1] σ fun v σ => ∃ (r0 : Bool), v = .bool r0 ∧ Q r0 σ
/-- althing/disk.rightName$1 -/
def c_disk_rightName_c1 (B : World) (ro : AH) (a0 : Int) (σ : AH) (Q : Bool → AH → Prop) : Prop :=
  ACalls Tryz.prog B ro 106 #[.int .u8 a0] σ fun v σ => ∃ (r0 : Bool), v = .bool r0 ∧ Q r0 σ
/-- internal/stringslite.CutPrefix -/
def c_stringslite_CutPrefix (B : World) (ro : AH) (a0 : ByteArray) (a1 : ByteArray) (σ : AH) (Q : ByteArray → Bool → AH → Prop) : Prop :=
  ACalls Tryz.prog B ro 110 #[.string a0, .string a1] σ fun v σ => ∃ (r0 : ByteArray) (r1 : Bool), v = .tuple #[.string r0, .bool r1] ∧ Q r0 r1 σ
/-- althing/wire.value -/
def c_wire_value (B : World) (ro : AH) (a0 : Sl) (σ : AH) (Q : Int → AH → Prop) : Prop :=
  ACalls Tryz.prog B ro 120 #[Sl.v a0] σ fun v σ => ∃ (r0 : Int), v = .int .i64 r0 ∧ Q r0 σ
/-- slices.IndexFunc[[]byte,byte] -/
def c_slices_IndexFunc_byte_byte (B : World) (ro : AH) (a0 : Sl) (a1 : Value) (σ : AH) (Q : Int → AH → Prop) : Prop :=
  ACalls Tryz.prog B ro 131 #[Sl.v a0, a1] σ fun v σ => ∃ (r0 : Int), v = .int .i64 r0 ∧ Q r0 σ
/-- internal/stringslite.HasPrefix -/
def c_stringslite_HasPrefix (B : World) (ro : AH) (a0 : ByteArray) (a1 : ByteArray) (σ : AH) (Q : Bool → AH → Prop) : Prop :=
  ACalls Tryz.prog B ro 135 #[.string a0, .string a1] σ fun v σ => ∃ (r0 : Bool), v = .bool r0 ∧ Q r0 σ
end Go.Proofs.YtfobjidchipdaaaGreatDoor.G

/- Functions as predicate transformers, and the proofs that the code does what they tell: printed by wip/tools/gen.py. -/
namespace Go.Proofs.YtfobjidchipdaaaGreatDoor.G
open Go Go.Proofs.YtfobjidchipdaaaGreatDoor.SL
set_option linter.unusedVariables false
set_option linter.unusedSimpArgs false

def f_bytes_Clone (B : World) (ro : AH) (a0 : Sl) (σ : AH) (Q : Sl → AH → Prop) : Prop :=
 if a0.a = none then
  Q (⟨none, 0, 0⟩ : Sl) σ
 else
 nw ro σ (.cells #[] 5) fun x5_1 σ =>
 awp Tryz.prog ro (Builtin.append_ #[22, 22] 22 #[Sl.v (⟨some ⟨x5_1, 0, none⟩, 0, 0⟩ : Sl), Sl.v a0]) (fun v σ => ∃ (x7_2 : Sl), v = Sl.v x7_2 ∧
  Q x7_2 σ) σ

set_option maxRecDepth 100000 in
set_option maxHeartbeats 4000000 in
theorem bytes_Clone_ok {B : World} {ro : AH} {a0 : Sl} {σ : AH} {Q : Sl → AH → Prop} (h : Sep ro σ → f_bytes_Clone B ro a0 σ Q) : c_bytes_Clone B ro a0 σ Q := by
  refine ACalls.of_sep fun hsep => ?_
  replace h := h hsep
  refine ACalls.of_body (args := [Sl.v a0]) Tryz.func74 rfl (by rw [Tryz.ntmps74]; simp) ?_
  rw [Tryz.ntmps74]
  unfold f_bytes_Clone at h
  refine AW.seq ?_
  refine AW.reg ?_
  refine Lp (V_asg rfl rfl) rfl rfl ?_
  refine Lnil ?_
  refine thenN ?_
  refine AW.seq ?_
  refine AW.seq ?_
  refine AW.reg ?_
  refine Lp (V_move rfl rfl) rfl rfl ?_
  refine Lp (V_eqL rfl Tryz.underlying22 rfl rfl) rfl rfl ?_
  refine Lnil ?_
  refine thenN ?_
  refine AW.iff rfl isNone_iff h (fun h => ?_) (fun h => ?_)
  · refine AW.seq ?_
    refine AW.reg ?_
    refine Lp (V_asg rfl rfl) rfl rfl ?_
    refine Lnil ?_
    refine thenN ?_
    refine AW.ret ?_
    refine thenR ?_
    exact bR1 Tryz.results74 rfl ⟨_, rfl, h⟩
  refine AW.skip ?_
  refine thenN ?_
  refine AW.seq ?_
  refine AW.reg ?_
  refine Ls rfl rfl (X_new (A_bsl (vs := []) (cs := #[]) rfl Tryz.underlying22 ty5 (by decide) rfl rfl) fun x5_1 g1 g2 => ?_)
  replace h := h x5_1 g1 g2
  refine Lp (V_move rfl rfl) rfl rfl ?_
  refine Ls rfl rfl (X_bi (s := Builtin.append_ #[22, 22] 22 #[Sl.v (⟨some ⟨x5_1, 0, none⟩, 0, 0⟩ : Sl), Sl.v a0]) rfl rfl (fun _ => rfl) (awp_mono _ h ?_))
  rintro v σ ⟨x7_2, rfl, h⟩
  refine Lp (V_asg rfl rfl) rfl rfl ?_
  refine Lnil ?_
  refine thenN ?_
  refine AW.ret ?_
  exact bR1 Tryz.results74 rfl ⟨_, rfl, h⟩

def f_strings_CutPrefix (B : World) (ro : AH) (a0 : ByteArray) (a1 : ByteArray) (σ : AH) (Q : ByteArray → Bool → AH → Prop) : Prop :=
 c_stringslite_CutPrefix B ro a0 a1 σ fun x8_1 x8_2 σ =>
 Q x8_1 x8_2 σ

set_option maxRecDepth 100000 in
set_option maxHeartbeats 4000000 in
theorem strings_CutPrefix_ok {B : World} {ro : AH} {a0 : ByteArray} {a1 : ByteArray} {σ : AH} {Q : ByteArray → Bool → AH → Prop} (h : Sep ro σ → f_strings_CutPrefix B ro a0 a1 σ Q) : c_strings_CutPrefix B ro a0 a1 σ Q := by
  refine ACalls.of_sep fun hsep => ?_
  replace h := h hsep
  refine ACalls.of_body (args := [.string a0, .string a1]) Tryz.func83 rfl (by rw [Tryz.ntmps83]; simp) ?_
  rw [Tryz.ntmps83]
  unfold f_strings_CutPrefix at h
  refine AW.seq ?_
  refine AW.reg ?_
  refine Lp (V_asg rfl rfl) rfl rfl ?_
  refine Lp (V_asg rfl rfl) rfl rfl ?_
  refine Lnil ?_
  refine thenN ?_
  refine AW.seq ?_
  refine AW.reg ?_
  refine Lp (V_move rfl rfl) rfl rfl ?_
  refine Lp (V_move rfl rfl) rfl rfl ?_
  refine Ls rfl rfl (X_call rfl Tryz.func110 rfl rfl rfl (ACalls.mono h ?_))
  rintro v σ ⟨x8_1, x8_2, rfl, h⟩
  refine Lp (V_ext rfl rfl rfl) rfl rfl ?_
  refine Lp (V_ext rfl rfl rfl) rfl rfl ?_
  refine Lp (V_asg rfl rfl) rfl rfl ?_
  refine Lp (V_asg rfl rfl) rfl rfl ?_
  refine Lnil ?_
  refine thenN ?_
  refine AW.ret ?_
  exact bR2 Tryz.results83 rfl rfl ⟨_, _, rfl, h⟩

def f_slices_ContainsFunc_byte_byte (B : World) (ro : AH) (a0 : Sl) (a1 : Value) (σ : AH) (Q : Bool → AH → Prop) : Prop :=
 c_slices_IndexFunc_byte_byte B ro a0 a1 σ fun x7_1 σ =>
 Q (decide (0 ≤ x7_1)) σ

set_option maxRecDepth 100000 in
set_option maxHeartbeats 4000000 in
theorem slices_ContainsFunc_byte_byte_ok {B : World} {ro : AH} {a0 : Sl} {a1 : Value} {σ : AH} {Q : Bool → AH → Prop} (h : Sep ro σ → f_slices_ContainsFunc_byte_byte B ro a0 a1 σ Q) : c_slices_ContainsFunc_byte_byte B ro a0 a1 σ Q := by
  refine ACalls.of_sep fun hsep => ?_
  replace h := h hsep
  refine ACalls.of_body (args := [Sl.v a0, a1]) Tryz.func105 rfl (by rw [Tryz.ntmps105]; simp) ?_
  rw [Tryz.ntmps105]
  unfold f_slices_ContainsFunc_byte_byte at h
  refine AW.seq ?_
  refine AW.reg ?_
  refine Lp (V_asg rfl rfl) rfl rfl ?_
  refine Lnil ?_
  refine thenN ?_
  refine AW.seq ?_
  refine AW.reg ?_
  refine Lp (V_move rfl rfl) rfl rfl ?_
  refine Lp (V_move rfl rfl) rfl rfl ?_
  refine Ls rfl rfl (X_call rfl Tryz.func131 rfl rfl rfl (ACalls.mono h ?_))
  rintro v σ ⟨x7_1, rfl, h⟩
  refine Lp (V_geq rfl rfl rfl) rfl rfl ?_
  refine Lp (V_asg rfl rfl) rfl rfl ?_
  refine Lnil ?_
  refine thenN ?_
  refine AW.ret ?_
  exact bR1 Tryz.results105 rfl ⟨_, rfl, h⟩

def f_stringslite_CutPrefix (B : World) (ro : AH) (a0 : ByteArray) (a1 : ByteArray) (σ : AH) (Q : ByteArray → Bool → AH → Prop) : Prop :=
 c_stringslite_HasPrefix B ro a0 a1 σ fun x8_1 σ =>
 if ¬ (x8_1 = true) then
  Q a0 false σ
 else
 cutOk (some (a1.size : Int)) none a0.size a0.size ∧
 Q (a0.extract (Int.toNat (a1.size : Int)) (a0.size)) true σ

set_option maxRecDepth 100000 in
set_option maxHeartbeats 4000000 in
theorem stringslite_CutPrefix_ok {B : World} {ro : AH} {a0 : ByteArray} {a1 : ByteArray} {σ : AH} {Q : ByteArray → Bool → AH → Prop} (h : Sep ro σ → f_stringslite_CutPrefix B ro a0 a1 σ Q) : c_stringslite_CutPrefix B ro a0 a1 σ Q := by
  refine ACalls.of_sep fun hsep => ?_
  replace h := h hsep
  refine ACalls.of_body (args := [.string a0, .string a1]) Tryz.func110 rfl (by rw [Tryz.ntmps110]; simp) ?_
  rw [Tryz.ntmps110]
  unfold f_stringslite_CutPrefix at h
  refine AW.seq ?_
  refine AW.reg ?_
  refine Lp (V_asg rfl rfl) rfl rfl ?_
  refine Lp (V_asg rfl rfl) rfl rfl ?_
  refine Lnil ?_
  refine thenN ?_
  refine AW.seq ?_
  refine AW.seq ?_
  refine AW.reg ?_
  refine Lp (V_move rfl rfl) rfl rfl ?_
  refine Lp (V_move rfl rfl) rfl rfl ?_
  refine Ls rfl rfl (X_call rfl Tryz.func135 rfl rfl rfl (ACalls.mono h ?_))
  rintro v σ ⟨x8_1, rfl, h⟩
  refine Lp (V_not rfl rfl) rfl rfl ?_
  refine Lnil ?_
  refine thenN ?_
  refine AW.iff rfl (bnot_iff Iff.rfl) h (fun h => ?_) (fun h => ?_)
  · refine AW.seq ?_
    refine AW.reg ?_
    refine Lp (V_move rfl rfl) rfl rfl ?_
    refine Lp (V_asg rfl rfl) rfl rfl ?_
    refine Lp (V_asg rfl rfl) rfl rfl ?_
    refine Lnil ?_
    refine thenN ?_
    refine AW.ret ?_
    refine thenR ?_
    exact bR2 Tryz.results110 rfl rfl ⟨_, _, rfl, h⟩
  refine AW.skip ?_
  refine thenN ?_
  refine AW.seq ?_
  refine AW.reg ?_
  refine Lp (V_move rfl rfl) rfl rfl ?_
  refine Lp (V_move rfl rfl) rfl rfl ?_
  refine Lp (V_lenS rfl rfl Tryz.underlying9 rfl rfl) rfl rfl ?_
  obtain ⟨hc, h⟩ := h
  refine Lp (V_slS (lo := (some (a1.size : Int))) (hi := none) rfl Tryz.underlying9 rfl (optI_some rfl) optI_none hc) rfl rfl ?_
  refine Lp (V_asg rfl rfl) rfl rfl ?_
  refine Lp (V_asg rfl rfl) rfl rfl ?_
  refine Lnil ?_
  refine thenN ?_
  refine AW.ret ?_
  exact bR2 Tryz.results110 rfl rfl ⟨_, _, rfl, h⟩

def j1_slices_IndexFunc_byte_byte (B : World) (ro : AH) (Q : Int → AH → Prop) (σ : AH) : Prop :=
 Q (-1) σ

def l2_slices_IndexFunc_byte_byte (B : World) (ro : AH) (a0 : Sl) (a1 : Value) (Q : Int → AH → Prop) : (Int) → AH → ((Int) → AH → Prop) → Prop := fun x8_3 σ Y2 =>
 if x8_3 < (a0.len : Int) then
  ∃ p14_4 : Addr, a0.a = some p14_4 ∧ (0 : Int) ≤ x8_3 ∧ x8_3 < (a0.len : Int) ∧
  ∃ (x15_5 : Int), acell ro σ (p14_4.add (Int.toNat x8_3 * 1)) = some (.int .u8 x15_5) ∧
  callV Tryz.prog B ro a1 [.int .u8 x15_5] σ (fun v σ => ∃ (x16_6 : Bool), v = .bool x16_6 ∧
   if x16_6 = true then
    Q x8_3 σ
   else
   Y2 (IntKind.i64.wrap (x8_3 + 1)) σ)
 else
 j1_slices_IndexFunc_byte_byte B ro Q σ

def f_slices_IndexFunc_byte_byte (B : World) (ro : AH) (a0 : Sl) (a1 : Value) (σ : AH) (Q : Int → AH → Prop) : Prop :=
 lfpD (l2_slices_IndexFunc_byte_byte B ro a0 a1 Q ) (0) σ

set_option maxRecDepth 100000 in
set_option maxHeartbeats 4000000 in
theorem slices_IndexFunc_byte_byte_ok {B : World} {ro : AH} {a0 : Sl} {a1 : Value} {σ : AH} {Q : Int → AH → Prop} (h : Sep ro σ → f_slices_IndexFunc_byte_byte B ro a0 a1 σ Q) : c_slices_IndexFunc_byte_byte B ro a0 a1 σ Q := by
  refine ACalls.of_sep fun hsep => ?_
  replace h := h hsep
  refine ACalls.of_body (args := [Sl.v a0, a1]) Tryz.func131 rfl (by rw [Tryz.ntmps131]; simp) ?_
  rw [Tryz.ntmps131]
  unfold f_slices_IndexFunc_byte_byte at h
  refine AW.seq ?_
  refine AW.reg ?_
  refine Lp (V_asg rfl rfl) rfl rfl ?_
  refine Lnil ?_
  refine thenN ?_
  refine AW.seqJ (fun fr σ => FrLe [] fr ∧ j1_slices_IndexFunc_byte_byte B ro Q σ) ?_ ?_
  · rintro fr σ ⟨hl, h⟩
    refine AW.weaken ?_ hl (HLe.refl _)
    unfold j1_slices_IndexFunc_byte_byte at h
    refine AW.seq ?_
    refine AW.reg ?_
    refine Lp (V_asg rfl rfl) rfl rfl ?_
    refine Lnil ?_
    refine thenN ?_
    refine AW.ret ?_
    exact bR1 Tryz.results131 rfl ⟨_, rfl, h⟩
  refine AW.seq ?_
  refine AW.reg ?_
  refine Lp (V_move rfl rfl) rfl rfl ?_
  refine Lp (V_lenL rfl rfl Tryz.underlying22 rfl rfl) rfl rfl ?_
  refine Lp (V_move rfl rfl) rfl rfl ?_
  refine Lnil ?_
  refine thenN ?_
  refine AW.block ?_
  refine ARound.loop (fr' := [(0, Sl.v a0), (1, a1), (7, .int .i64 (a0.len : Int)), (8, .int .i64 0)]) ?_ (FrLe.cons rfl (FrLe.cons rfl (FrLe.cons rfl (FrLe.cons rfl (FrLe.nil _)))))
  refine h (fun x8_3 σ => ARound _ _ _ _ _ _ [(0, Sl.v a0), (1, a1), (7, .int .i64 (a0.len : Int)), (8, .int .i64 x8_3)] σ) ?_
  rintro x8_3 σ Y2 hY2 h
  show AW _ _ _ _ _ _ _ _
  unfold l2_slices_IndexFunc_byte_byte at h
  refine AW.seq ?_
  refine AW.reg ?_
  refine Lp (V_lss rfl rfl rfl) rfl rfl ?_
  refine Lnil ?_
  refine thenN ?_
  refine AW.seq ?_
  refine AW.iff rfl decide_eq_true_iff h (fun h => ?_) (fun h => ?_)
  rotate_left
  · refine AW.exit ?_
    refine thenE ?_
    refine thenE ?_
    refine blockE ?_
    refine thenN ?_
    exact ⟨(FrLe.nil _), h⟩
  refine AW.skip ?_
  refine thenN ?_
  refine AW.seq ?_
  refine AW.block ?_
  refine AW.seq ?_
  refine AW.reg ?_
  refine Lp (V_move rfl rfl) rfl rfl ?_
  refine Lp (V_asg rfl rfl) rfl rfl ?_
  refine Lnil ?_
  refine thenN ?_
  refine AW.seq ?_
  refine AW.reg ?_
  refine Lp (V_move rfl rfl) rfl rfl ?_
  refine Lp (V_move rfl rfl) rfl rfl ?_
  refine Lp (V_move rfl rfl) rfl rfl ?_
  obtain ⟨p14_4, ha, h0, h1, h⟩ := h
  refine Lp (V_ixA rfl Tryz.underlying22 ty5 (ixL rfl ha) rfl h0 h1) rfl rfl ?_
  obtain ⟨x15_5, hc, h⟩ := h
  refine Ls rfl rfl (X_ld rfl Tryz.underlying5 rfl rfl hc ?_)
  refine Ls rfl rfl (X_callV rfl rfl rfl (callV_mono h ?_))
  rintro v σ ⟨x16_6, rfl, h⟩
  refine Lnil ?_
  refine thenN ?_
  refine AW.iff rfl Iff.rfl h (fun h => ?_) (fun h => ?_)
  · refine AW.seq ?_
    refine AW.reg ?_
    refine Lp (V_move rfl rfl) rfl rfl ?_
    refine Lp (V_asg rfl rfl) rfl rfl ?_
    refine Lnil ?_
    refine thenN ?_
    refine AW.ret ?_
    refine blockR ?_
    refine thenR ?_
    refine thenR ?_
    refine blockR ?_
    refine thenR ?_
    exact bR1 Tryz.results131 rfl ⟨_, rfl, h⟩
  refine AW.skip ?_
  refine blockN ?_
  refine thenN ?_
  refine AW.reg ?_
  refine Lp (V_add rfl rfl rfl) rfl rfl ?_
  refine Lp (V_move rfl rfl) rfl rfl ?_
  refine Lnil ?_
  refine thenN ?_
  refine ARound.head (fr' := [(0, Sl.v a0), (1, a1), (7, .int .i64 (a0.len : Int)), (8, .int .i64 (IntKind.i64.wrap (x8_3 + 1)))]) ?_ (FrLe.cons rfl (FrLe.cons rfl (FrLe.cons rfl (FrLe.cons rfl (FrLe.nil _)))))
  exact hY2 _ _ h

def j1_stringslite_HasPrefix (B : World) (ro : AH) (Q : Bool → AH → Prop) (x17_2 : Bool) (σ : AH) : Prop :=
 Q x17_2 σ

def f_stringslite_HasPrefix (B : World) (ro : AH) (a0 : ByteArray) (a1 : ByteArray) (σ : AH) (Q : Bool → AH → Prop) : Prop :=
 if (a1.size : Int) ≤ (a0.size : Int) then
  cutOk none (some (a1.size : Int)) a0.size a0.size ∧
  j1_stringslite_HasPrefix B ro Q (decide ((a0.extract (0) (Int.toNat (a1.size : Int))) = a1)) σ
 else
 j1_stringslite_HasPrefix B ro Q false σ

set_option maxRecDepth 100000 in
set_option maxHeartbeats 4000000 in
theorem stringslite_HasPrefix_ok {B : World} {ro : AH} {a0 : ByteArray} {a1 : ByteArray} {σ : AH} {Q : Bool → AH → Prop} (h : Sep ro σ → f_stringslite_HasPrefix B ro a0 a1 σ Q) : c_stringslite_HasPrefix B ro a0 a1 σ Q := by
  refine ACalls.of_sep fun hsep => ?_
  replace h := h hsep
  refine ACalls.of_body (args := [.string a0, .string a1]) Tryz.func135 rfl (by rw [Tryz.ntmps135]; simp) ?_
  rw [Tryz.ntmps135]
  unfold f_stringslite_HasPrefix at h
  refine AW.seq ?_
  refine AW.reg ?_
  refine Lp (V_asg rfl rfl) rfl rfl ?_
  refine Lnil ?_
  refine thenN ?_
  refine AW.seq ?_
  refine AW.reg ?_
  refine Lp (V_move rfl rfl) rfl rfl ?_
  refine Lp (V_lenS rfl rfl Tryz.underlying9 rfl rfl) rfl rfl ?_
  refine Lp (V_move rfl rfl) rfl rfl ?_
  refine Lp (V_lenS rfl rfl Tryz.underlying9 rfl rfl) rfl rfl ?_
  refine Lp (V_geq rfl rfl rfl) rfl rfl ?_
  refine Lp (V_move rfl rfl) rfl rfl ?_
  refine LsplitJ 7 (decide ((a1.size : Int) ≤ (a0.size : Int))) decide_eq_true_iff h (fun fr σ => ∃ (x17_2 : Bool), FrLe [(17, .bool x17_2)] fr ∧ j1_stringslite_HasPrefix B ro Q x17_2 σ) ?_ ?_ ?_
  · intro h e5 hk5
    refine Lypb (V_move rfl rfl) rfl rfl rfl rfl e5 ?_
    refine Lypb (V_move rfl rfl) rfl rfl rfl rfl e5 ?_
    refine Lypb (V_lenS rfl rfl Tryz.underlying9 rfl rfl) rfl rfl rfl rfl e5 ?_
    obtain ⟨hc, h⟩ := h
    refine Lypb (V_slS (lo := none) (hi := (some (a1.size : Int))) rfl Tryz.underlying9 rfl optI_none (optI_some rfl) hc) rfl rfl rfl rfl e5 ?_
    refine Lypb (V_move rfl rfl) rfl rfl rfl rfl e5 ?_
    refine Lypb (V_eqlS rfl rfl rfl) rfl rfl rfl rfl e5 ?_
    refine Lp (V_pickT rfl (evb e5) rfl) rfl rfl ?_
    exact hk5 _ _ ⟨_, (FrLe.cons rfl (FrLe.nil _)), h⟩
  · intro h e5 hk5
    refine Ln rfl rfl rfl rfl (.inl (by rw [e5]; rfl)) ?_
    refine Ln rfl rfl rfl rfl (.inl (by rw [e5]; rfl)) ?_
    refine Ln rfl rfl rfl rfl (.inl (by rw [e5]; rfl)) ?_
    refine Ln rfl rfl rfl rfl (.inl (by rw [e5]; rfl)) ?_
    refine Ln rfl rfl rfl rfl (.inl (by rw [e5]; rfl)) ?_
    refine Ln rfl rfl rfl rfl (.inl (by rw [e5]; rfl)) ?_
    refine Lp (V_pickF rfl (evb e5) rfl) rfl rfl ?_
    exact hk5 _ _ ⟨_, (FrLe.cons rfl (FrLe.nil _)), h⟩
  rintro fr σ ⟨x17_2, hl, h⟩
  unfold j1_stringslite_HasPrefix at h
  refine Lfr hl ?_
  refine Lp (V_asg rfl rfl) rfl rfl ?_
  refine Lnil ?_
  refine thenN ?_
  refine AW.ret ?_
  exact bR1 Tryz.results135 rfl ⟨_, rfl, h⟩

end Go.Proofs.YtfobjidchipdaaaGreatDoor.G

/- Functions as predicate transformers, and the proofs that the code does what they tell: printed by wip/tools/gen.py. -/
namespace Go.Proofs.YtfobjidchipdaaaGreatDoor.G
open Go Go.Proofs.YtfobjidchipdaaaGreatDoor.SL
set_option linter.unusedVariables false
set_option linter.unusedSimpArgs false

def f_ref01_Copy (B : World) (ro : AH) (a0 : Sl) (σ : AH) (Q : Sl → AH → Prop) : Prop :=
 nw ro σ (.cells #[Sl.v a0] 22) fun x4_1 σ =>
 c_ref01_Join B ro (⟨some ⟨x4_1, 0, none⟩, 1, 1⟩ : Sl) σ fun x5_2 σ =>
 Q x5_2 σ

set_option maxRecDepth 100000 in
set_option maxHeartbeats 4000000 in
theorem ref01_Copy_ok {B : World} {ro : AH} {a0 : Sl} {σ : AH} {Q : Sl → AH → Prop} (h : Sep ro σ → f_ref01_Copy B ro a0 σ Q) : c_ref01_Copy B ro a0 σ Q := by
  refine ACalls.of_sep fun hsep => ?_
  replace h := h hsep
  refine ACalls.of_body (args := [Sl.v a0]) Tryz.func12 rfl (by rw [Tryz.ntmps12]; simp) ?_
  rw [Tryz.ntmps12]
  unfold f_ref01_Copy at h
  refine AW.seq ?_
  refine AW.reg ?_
  refine Lp (V_asg rfl rfl) rfl rfl ?_
  refine Lnil ?_
  refine thenN ?_
  refine AW.seq ?_
  refine AW.reg ?_
  refine Lp (V_move rfl rfl) rfl rfl ?_
  refine Ls rfl rfl (X_new (A_bsl (vs := [(0, Sl.v a0)]) (cs := #[Sl.v a0]) rfl Tryz.underlying44 ty22 (by decide) rfl rfl) fun x4_1 g1 g2 => ?_)
  replace h := h x4_1 g1 g2
  refine Ls rfl rfl (X_call rfl Tryz.func48 rfl rfl rfl (ACalls.mono h ?_))
  rintro v σ ⟨x5_2, rfl, h⟩
  refine Lp (V_asg rfl rfl) rfl rfl ?_
  refine Lnil ?_
  refine thenN ?_
  refine AW.ret ?_
  exact bR1 Tryz.results12 rfl ⟨_, rfl, h⟩

def f_ref01_CopyInts (B : World) (ro : AH) (a0 : Sl) (σ : AH) (Q : Sl → AH → Prop) : Prop :=
 ((0 : Int) ≤ (a0.len : Int) ∧ (a0.len : Int) ≤ (a0.len : Int) ∧ ((a0.len : Int) : Int) ≤ 281474976710656 ∧ 8 * ((a0.len : Int) : Int) ≤ 281474976710656) ∧
 nw ro σ (.cells (zeros (.int .i64 0) (Int.toNat (a0.len : Int) * 1)) 3) fun x6_1 σ =>
 awp Tryz.prog ro (Builtin.copy_ #[23, 23] 3 #[Sl.v (⟨some ⟨x6_1, 0, none⟩, Int.toNat (a0.len : Int), Int.toNat (a0.len : Int)⟩ : Sl), Sl.v a0]) (fun v σ => ∃ (x9_2 : Int), v = .int .i64 x9_2 ∧
  Q (⟨some ⟨x6_1, 0, none⟩, Int.toNat (a0.len : Int), Int.toNat (a0.len : Int)⟩ : Sl) σ) σ

set_option maxRecDepth 100000 in
set_option maxHeartbeats 4000000 in
theorem ref01_CopyInts_ok {B : World} {ro : AH} {a0 : Sl} {σ : AH} {Q : Sl → AH → Prop} (h : Sep ro σ → f_ref01_CopyInts B ro a0 σ Q) : c_ref01_CopyInts B ro a0 σ Q := by
  refine ACalls.of_sep fun hsep => ?_
  replace h := h hsep
  refine ACalls.of_body (args := [Sl.v a0]) Tryz.func16 rfl (by rw [Tryz.ntmps16]; simp) ?_
  rw [Tryz.ntmps16]
  unfold f_ref01_CopyInts at h
  refine AW.seq ?_
  refine AW.reg ?_
  refine Lp (V_asg rfl rfl) rfl rfl ?_
  refine Lnil ?_
  refine thenN ?_
  refine AW.seq ?_
  refine AW.reg ?_
  refine Lp (V_move rfl rfl) rfl rfl ?_
  refine Lp (V_lenL rfl rfl Tryz.underlying23 rfl rfl) rfl rfl ?_
  obtain ⟨⟨h0, h1, h2, h3⟩, h⟩ := h
  refine Ls rfl rfl (X_new (A_mks rfl Tryz.underlying23 ty3 rfl rfl h0 h1 h2 h3) fun x6_1 g1 g2 => ?_)
  replace h := h x6_1 g1 g2
  refine Lp (V_asg rfl rfl) rfl rfl ?_
  refine Lnil ?_
  refine thenN ?_
  refine AW.seq ?_
  refine AW.reg ?_
  refine Lp (V_move rfl rfl) rfl rfl ?_
  refine Lp (V_move rfl rfl) rfl rfl ?_
  refine Ls rfl rfl (X_bi (s := Builtin.copy_ #[23, 23] 3 #[Sl.v (⟨some ⟨x6_1, 0, none⟩, Int.toNat (a0.len : Int), Int.toNat (a0.len : Int)⟩ : Sl), Sl.v a0]) rfl rfl (fun _ => rfl) (awp_mono _ h ?_))
  rintro v σ ⟨x9_2, rfl, h⟩
  refine Lnil ?_
  refine thenN ?_
  refine AW.seq ?_
  refine AW.reg ?_
  refine Lp (V_move rfl rfl) rfl rfl ?_
  refine Lp (V_asg rfl rfl) rfl rfl ?_
  refine Lnil ?_
  refine thenN ?_
  refine AW.ret ?_
  exact bR1 Tryz.results16 rfl ⟨_, rfl, h⟩

def f_ref01_Same (B : World) (ro : AH) (a0 : Sl) (a1 : Sl) (σ : AH) (Q : Bool → AH → Prop) : Prop :=
 awp Tryz.prog ro (convert 22 9 (Sl.v a0)) (fun v σ =>
  (∃ (x6_1 : ByteArray), v = .string x6_1 ∧
   awp Tryz.prog ro (convert 22 9 (Sl.v a1)) (fun v σ =>
    (∃ (x8_2 : ByteArray), v = .string x8_2 ∧
     Q (decide (x6_1 = x8_2)) σ)) σ)) σ

set_option maxRecDepth 100000 in
set_option maxHeartbeats 4000000 in
theorem ref01_Same_ok {B : World} {ro : AH} {a0 : Sl} {a1 : Sl} {σ : AH} {Q : Bool → AH → Prop} (h : Sep ro σ → f_ref01_Same B ro a0 a1 σ Q) : c_ref01_Same B ro a0 a1 σ Q := by
  refine ACalls.of_sep fun hsep => ?_
  replace h := h hsep
  refine ACalls.of_body (args := [Sl.v a0, Sl.v a1]) Tryz.func17 rfl (by rw [Tryz.ntmps17]; simp) ?_
  rw [Tryz.ntmps17]
  unfold f_ref01_Same at h
  refine AW.seq ?_
  refine AW.reg ?_
  refine Lp (V_asg rfl rfl) rfl rfl ?_
  refine Lnil ?_
  refine thenN ?_
  refine AW.seq ?_
  refine AW.reg ?_
  refine Lp (V_move rfl rfl) rfl rfl ?_
  refine Ls rfl rfl (X_cvt rfl rfl (awp_mono _ h ?_))
  rintro v σ ⟨x6_1, rfl, h⟩
  refine Lp (V_move rfl rfl) rfl rfl ?_
  refine Ls rfl rfl (X_cvt rfl rfl (awp_mono _ h ?_))
  rintro v σ ⟨x8_2, rfl, h⟩
  refine Lp (V_eqlS rfl rfl rfl) rfl rfl ?_
  refine Lp (V_asg rfl rfl) rfl rfl ?_
  refine Lnil ?_
  refine thenN ?_
  refine AW.ret ?_
  exact bR1 Tryz.results17 rfl ⟨_, rfl, h⟩

def j2_ref01_Join (B : World) (ro : AH) (Q : Sl → AH → Prop) (x3_3 : Sl) (σ : AH) : Prop :=
 Q x3_3 σ

def l4_ref01_Join (B : World) (ro : AH) (a0 : Sl) (Q : Sl → AH → Prop) : (Sl × Int) → AH → ((Sl × Int) → AH → Prop) → Prop := fun ⟨x3_5, x4_6⟩ σ Y4 =>
 if x4_6 < (a0.len : Int) then
  ∃ p15_7 : Addr, a0.a = some p15_7 ∧ (0 : Int) ≤ x4_6 ∧ x4_6 < (a0.len : Int) ∧
  ∃ (x16_8 : Sl), acell ro σ (p15_7.add (Int.toNat x4_6 * 1)) = some (Sl.v x16_8) ∧
  awp Tryz.prog ro (Builtin.append_ #[22, 22] 22 #[Sl.v x3_5, Sl.v x16_8]) (fun v σ => ∃ (x17_9 : Sl), v = Sl.v x17_9 ∧
   Y4 (x17_9, IntKind.i64.wrap (x4_6 + 1)) σ) σ
 else
 j2_ref01_Join B ro Q x3_5 σ

def f_ref01_Join (B : World) (ro : AH) (a0 : Sl) (σ : AH) (Q : Sl → AH → Prop) : Prop :=
 nw ro σ (.cells #[] 5) fun x5_1 σ =>
 lfpD (l4_ref01_Join B ro a0 Q ) ((⟨some ⟨x5_1, 0, none⟩, 0, 0⟩ : Sl), 0) σ

set_option maxRecDepth 100000 in
set_option maxHeartbeats 4000000 in
theorem ref01_Join_ok {B : World} {ro : AH} {a0 : Sl} {σ : AH} {Q : Sl → AH → Prop} (h : Sep ro σ → f_ref01_Join B ro a0 σ Q) : c_ref01_Join B ro a0 σ Q := by
  refine ACalls.of_sep fun hsep => ?_
  replace h := h hsep
  refine ACalls.of_body (args := [Sl.v a0]) Tryz.func48 rfl (by rw [Tryz.ntmps48]; simp) ?_
  rw [Tryz.ntmps48]
  unfold f_ref01_Join at h
  refine AW.seq ?_
  refine AW.reg ?_
  refine Lp (V_asg rfl rfl) rfl rfl ?_
  refine Lnil ?_
  refine thenN ?_
  refine AW.seq ?_
  refine AW.reg ?_
  refine Ls rfl rfl (X_new (A_bsl (vs := []) (cs := #[]) rfl Tryz.underlying22 ty5 (by decide) rfl rfl) fun x5_1 g1 g2 => ?_)
  replace h := h x5_1 g1 g2
  refine Lp (V_asg rfl rfl) rfl rfl ?_
  refine Lnil ?_
  refine thenN ?_
  refine AW.seqJ (fun fr σ => ∃ (x3_3 : Sl), FrLe [(3, Sl.v x3_3)] fr ∧ j2_ref01_Join B ro Q x3_3 σ) ?_ ?_
  · rintro fr σ ⟨x3_3, hl, h⟩
    refine AW.weaken ?_ hl (HLe.refl _)
    unfold j2_ref01_Join at h
    refine AW.seq ?_
    refine AW.reg ?_
    refine Lp (V_move rfl rfl) rfl rfl ?_
    refine Lp (V_asg rfl rfl) rfl rfl ?_
    refine Lnil ?_
    refine thenN ?_
    refine AW.ret ?_
    exact bR1 Tryz.results48 rfl ⟨_, rfl, h⟩
  refine AW.seq ?_
  refine AW.reg ?_
  refine Lp (V_asg rfl rfl) rfl rfl ?_
  refine Lnil ?_
  refine thenN ?_
  refine AW.block ?_
  refine ARound.loop (fr' := [(0, Sl.v a0), (3, Sl.v (⟨some ⟨x5_1, 0, none⟩, 0, 0⟩ : Sl)), (4, .int .i64 0)]) ?_ (FrLe.cons rfl (FrLe.cons rfl (FrLe.cons rfl (FrLe.nil _))))
  refine h (fun ⟨x3_5, x4_6⟩ σ => ARound _ _ _ _ _ _ [(0, Sl.v a0), (3, Sl.v x3_5), (4, .int .i64 x4_6)] σ) ?_
  rintro ⟨x3_5, x4_6⟩ σ Y4 hY4 h
  show AW _ _ _ _ _ _ _ _
  unfold l4_ref01_Join at h
  dsimp only at h
  refine AW.seq ?_
  refine AW.seq ?_
  refine AW.reg ?_
  refine Lp (V_move rfl rfl) rfl rfl ?_
  refine Lp (V_move rfl rfl) rfl rfl ?_
  refine Lp (V_lenL rfl rfl Tryz.underlying44 rfl rfl) rfl rfl ?_
  refine Lp (V_lss rfl rfl rfl) rfl rfl ?_
  refine Lnil ?_
  refine thenN ?_
  refine AW.iff rfl decide_eq_true_iff h (fun h => ?_) (fun h => ?_)
  rotate_left
  · refine AW.exit ?_
    refine thenE ?_
    refine thenE ?_
    refine blockE ?_
    refine thenN ?_
    exact ⟨_, (FrLe.cons rfl (FrLe.nil _)), h⟩
  refine AW.skip ?_
  refine thenN ?_
  refine AW.seq ?_
  refine AW.block ?_
  refine AW.reg ?_
  refine Lp (V_move rfl rfl) rfl rfl ?_
  refine Lp (V_move rfl rfl) rfl rfl ?_
  refine Lp (V_move rfl rfl) rfl rfl ?_
  obtain ⟨p15_7, ha, h0, h1, h⟩ := h
  refine Lp (V_ixA rfl Tryz.underlying44 ty22 (ixL rfl ha) rfl h0 h1) rfl rfl ?_
  obtain ⟨x16_8, hc, h⟩ := h
  refine Ls rfl rfl (X_ld rfl Tryz.underlying22 rfl rfl hc ?_)
  refine Ls rfl rfl (X_bi (s := Builtin.append_ #[22, 22] 22 #[Sl.v x3_5, Sl.v x16_8]) rfl rfl (fun _ => rfl) (awp_mono _ h ?_))
  rintro v σ ⟨x17_9, rfl, h⟩
  refine Lp (V_asg rfl rfl) rfl rfl ?_
  refine Lnil ?_
  refine blockN ?_
  refine thenN ?_
  refine AW.reg ?_
  refine Lp (V_move rfl rfl) rfl rfl ?_
  refine Lp (V_add rfl rfl rfl) rfl rfl ?_
  refine Lp (V_asg rfl rfl) rfl rfl ?_
  refine Lnil ?_
  refine thenN ?_
  refine ARound.head (fr' := [(0, Sl.v a0), (3, Sl.v x17_9), (4, .int .i64 (IntKind.i64.wrap (x4_6 + 1)))]) ?_ (FrLe.cons rfl (FrLe.cons rfl (FrLe.cons rfl (FrLe.nil _))))
  exact hY4 _ _ h

end Go.Proofs.YtfobjidchipdaaaGreatDoor.G

/- Small things that all texts of snapshots and logs use: bytes, strings, clones. -/
namespace Go.Proofs.YtfobjidchipdaaaGreatDoor.Pa
open Go Go.Proofs.YtfobjidchipdaaaGreatDoor.SL Go.Proofs.YtfobjidchipdaaaGreatDoor.G Go.RowKit
set_option linter.unusedSimpArgs false
set_option linter.unusedVariables false
variable {B : World} {ro σ σ' : AH} {tag tag' : Nat → Nat}
theorem inc (j : Nat) (h : j < 4611686018427387904) : IntKind.i64.wrap ((j : Int) + 1) = ((j + 1 : Nat) : Int) := by rw [SL.w64_eq (by omega) (by omega)]; rfl

/-- what the laws read of package variables -/
structure Glob (ro : AH) : Prop where
  tab : ∀ w : World, (∀ b o, ro b = some o → w.heap[b]? = some o) → Lib.TabIs Tryz.prog w "internal/strconv.uint64pow10" .u64 Lib.pow10Tab
theorem sees_ro {w : World} (h : Sees ro σ w) : ∀ b o, ro b = some o → w.heap[b]? = some o := fun b o hb => h b o (by unfold rd; rw [hb])
abbrev vS (l : Str) : Value := .string (S l)

theorem Row.sget {r : Nat} {e : TypeId} {s : Sl} {l : List Str} (h : Row tag σ r e s (l.map vS)) (hs : SL.Sep ro σ) {i : Nat} (hi : i < l.length) :
    ∃ p, s.a = some p ∧ s.len = l.length ∧ ∀ j (hj : j < l.length), acell ro σ (p.add (j * 1)) = some (vS l[j]) := by
  obtain ⟨p, hp, hg⟩ := h.ptr hs (by simp; omega)
  refine ⟨p, hp, by rw [h.len]; simp, fun j hj => hg j _ ?_⟩
  rw [List.getElem?_map, List.getElem?_eq_getElem hj]; rfl

end Go.Proofs.YtfobjidchipdaaaGreatDoor.Pa
namespace Go.Proofs.YtfobjidchipdaaaGreatDoor.Zt
open Go Go.Proofs.YtfobjidchipdaaaGreatDoor.SL Go.Proofs.YtfobjidchipdaaaGreatDoor.G Go.Proofs.YtfobjidchipdaaaGreatDoor.Pa
set_option linter.unusedSimpArgs false
set_option linter.unusedVariables false
variable {B : World} {ro σ σ' : AH} {tag tag' : Nat → Nat}
abbrev vI (x : Int) : Value := .int .i64 x
abbrev vU (c : UInt8) : Value := .int .u8 c.toNat
abbrev ptr (b : Nat) : Value := .pointer (some ⟨b, 0, none⟩)
theorem u9 : Tryz.prog.underlying 9 = some .string := by kernel_rfl
theorem u30 : Tryz.prog.underlying 22 = some (.slice 5) := by kernel_rfl
set_option maxRecDepth 100000 in
theorem clone_ok {s : Sl} {l : List Value} {Q : Sl → AH → Prop} (h : SL.Read ro σ s l) (hs : SL.Sep ro σ) (hl : l.length ≤ 140737488355328) (hv : ∀ v ∈ l, storable v = true) (hQ : ∀ s' tag' σ', (∀ R, Step R ro tag σ tag' σ') → Row tag' σ' 6 5 s' l → Q s' σ') : c_bytes_Clone B ro s σ Q := by
  refine bytes_Clone_ok fun _ => ?_
  unfold f_bytes_Clone
  by_cases h0 : s.a = none
  · rw [if_pos h0]
    rw [h.2.1 h0] at hQ
    exact hQ _ tag σ (fun _ => Step.refl hs) (Row.nil 6 5)
  · rw [if_neg h0]
    refine nw_cells (tag := tag) 6 hs fun b tag1 σ1 st1 r1 => ?_
    have h' : SL.Read ro σ1 s l := h.step (st1 [])
    refine awp_appendN r1 (st1 []).sep h' u30 ty5 rfl hv (by simp; omega) (by decide) fun s' tag2 σ2 st2 r2 => ?_
    exact ⟨s', rfl, hQ s' tag2 σ2 (fun R => (st1 R).trans (st2 R (.inl rfl))) r2⟩

theorem u5'' : Tryz.prog.underlying 5 = some (.int .u8) := by kernel_rfl
theorem forIn_bytes {P : Program} {f : Value → ByteArray → Sem (ForInStep ByteArray)} (hf : ∀ (c : UInt8) (r : ByteArray), f (vU c) r = Sem.pure (.yield (r.push c))) :
    ∀ (l : Str) (s : Str), (forIn (l.map vU) (S s) f : Sem ByteArray) = Sem.pure (S (s ++ l)) := by
  intro l
  induction l with
  | nil => intro s; simp; rfl
  | cons c l ih =>
    intro s
    simp only [List.map_cons, List.forIn_cons]
    rw [hf]
    show (match ForInStep.yield ((S s).push c) with | _ => _ : Sem ByteArray) = _
    have e : (S s).push c = S (s ++ [c]) := by unfold S; simp [ByteArray.push]
    show forIn (l.map vU) ((S s).push c) f = _
    rw [e, ih]
    simp
theorem awp_b2s {s : Sl} {l : Str} {K : Value → AH → Prop} (h : SL.Read ro σ s (l.map vU)) (hK : K (.string (S l)) σ) : awp Tryz.prog ro (convert 22 9 (Sl.v s)) K σ := by
  unfold convert
  simp only [bind_def]
  rw [awp_underlying u30, awp_underlying u9]
  simp only [Sl.v]
  rw [awp_underlying u5'']
  simp only
  unfold Conv.bytesToString
  cases hs : s.a with
  | none =>
    have : l = [] := by have := h.2.1 hs; simpa using this
    subst this
    exact hK
  | some p =>
    simp only
    rw [h.1]
    refine (awp_bind _ _).2 ?_
    refine awp_loadCells (l.map vU) 0 #[] (cellsAt_of 0 fun j v hj => by rw [Nat.zero_add]; exact h.2.2 p hs j v hj) ?_
    simp only [List.nil_append, List.forIn_toArray, Array.empty_append]
    refine (awp_bind _ _).2 ?_
    refine cast (congrArg (fun z => awp Tryz.prog ro z _ σ) (forIn_bytes (P := Tryz.prog) ?_ l [])).symm ?_
    · intro c r
      simp only [vU]
      show Sem.pure (ForInStep.yield (r.push (UInt8.ofNat (Int.toNat (c.toNat : Int))))) = _
      rw [Int.toNat_natCast]; simp
    · exact hK
set_option maxRecDepth 100000 in
theorem same_ok {a b : Sl} {x y : Str} {Q : Bool → AH → Prop} (ha : SL.Read ro σ a (x.map vU)) (hb : SL.Read ro σ b (y.map vU)) (hQ : Q (decide (x = y)) σ) : c_ref01_Same B ro a b σ Q := by
  refine ref01_Same_ok fun _ => ?_
  unfold f_ref01_Same
  refine awp_b2s ha ⟨S x, rfl, awp_b2s hb ⟨S y, rfl, ?_⟩⟩
  rw [show decide (S x = S y) = decide (x = y) from by simp only [S_inj]]
  exact hQ
end Go.Proofs.YtfobjidchipdaaaGreatDoor.Zt
