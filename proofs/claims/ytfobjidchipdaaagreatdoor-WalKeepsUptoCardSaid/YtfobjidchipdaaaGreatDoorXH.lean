/- DkA, MapL, GDk, DkB -/
import Derived.Test.YtfobjidchipdaaaGreatDoorXG
/- Files by their names, as a disk has them: the list of pairs, and how it lies in memory. -/
namespace Go.Proofs.YtfobjidchipdaaaGreatDoor.Dk
open Go Go.Proofs.YtfobjidchipdaaaGreatDoor.SL
set_option linter.unusedSimpArgs false
set_option linter.unusedVariables false
variable {P : Program} {B : World} {ro σ σ' : AH} {tag tag' : Nat → Nat}

/-! ### lists of names and what belongs to them -/
section
variable {β : Type}
def aput : List (Str × β) → Str → β → List (Str × β)
  | [], k, v => [(k, v)]
  | (k', v') :: r, k, v => if k = k' then (k, v) :: r else (k', v') :: aput r k v
def adel : List (Str × β) → Str → List (Str × β)
  | [], _ => []
  | (k', v') :: r, k => if k = k' then r else (k', v') :: adel r k
theorem mem_lookup : ∀ {ps : List (Str × β)} {k : Str} {x : β}, ps.lookup k = some x → (k, x) ∈ ps := by
  intro ps
  induction ps with
  | nil => intro k x h; cases h
  | cons p ps ih =>
    intro k x h
    obtain ⟨k', v'⟩ := p
    rw [List.lookup_cons] at h
    by_cases e : k = k'
    · subst e; simp at h; subst h; simp
    · rw [show (k == k') = false by simpa using e] at h
      exact List.mem_cons_of_mem _ (ih h)
theorem lookup_key {ps : List (Str × β)} {k : Str} : ps.lookup k = none ↔ k ∉ ps.map (·.1) := by
  rw [List.lookup_eq_none_iff]
  constructor
  · intro h hm
    obtain ⟨p, hp, e⟩ := List.mem_map.1 hm
    have := h p hp
    simp at this; exact this e.symm
  · intro h p hp
    simp
    intro e
    exact h (List.mem_map.2 ⟨p, hp, e.symm⟩)
theorem lookup_mem {ps : List (Str × β)} (hn : (ps.map (·.1)).Nodup) {k : Str} {x : β} (h : (k, x) ∈ ps) : ps.lookup k = some x := by
  induction ps with
  | nil => cases h
  | cons p ps ih =>
    obtain ⟨k', v'⟩ := p
    rw [List.map_cons, List.nodup_cons] at hn
    rw [List.lookup_cons]
    rcases List.mem_cons.1 h with h | h
    · cases h; simp
    · have e : k ≠ k' := fun e => hn.1 (by rw [← e]; exact List.mem_map.2 ⟨_, h, rfl⟩)
      rw [show (k == k') = false by simpa using e]
      exact ih hn.2 h
theorem lookup_aput {ps : List (Str × β)} {k : Str} {v : β} (j : Str) : (aput ps k v).lookup j = if j = k then some v else ps.lookup j := by
  induction ps with
  | nil =>
    show List.lookup j [(k, v)] = _
    rw [List.lookup_cons]
    by_cases e : j = k
    · simp [e]
    · rw [show (j == k) = false by simpa using e, if_neg e]
  | cons p ps ih =>
    obtain ⟨k', v'⟩ := p
    unfold aput
    by_cases c : k = k'
    · rw [if_pos c]
      subst c
      rw [List.lookup_cons, List.lookup_cons]
      by_cases e : j = k
      · simp [e]
      · rw [show (j == k) = false by simpa using e, if_neg e]
    · rw [if_neg c, List.lookup_cons, List.lookup_cons, ih]
      by_cases e : j = k'
      · subst e
        simp
        intro h; exact absurd h.symm c
      · rw [show (j == k') = false by simpa using e]
theorem aput_new {ps : List (Str × β)} {k : Str} {v : β} (h : ps.lookup k = none) : aput ps k v = ps ++ [(k, v)] := by
  induction ps with
  | nil => rfl
  | cons p ps ih =>
    obtain ⟨k', v'⟩ := p
    rw [List.lookup_cons] at h
    by_cases e : k = k'
    · subst e; simp at h
    · rw [show (k == k') = false by simpa using e] at h
      unfold aput
      rw [if_neg e, ih h]; rfl
theorem aput_keys {ps : List (Str × β)} {k : Str} {v x : β} (h : ps.lookup k = some x) : (aput ps k v).map (·.1) = ps.map (·.1) := by
  induction ps with
  | nil => cases h
  | cons p ps ih =>
    obtain ⟨k', v'⟩ := p
    rw [List.lookup_cons] at h
    unfold aput
    by_cases e : k = k'
    · subst e; simp
    · rw [show (k == k') = false by simpa using e] at h
      rw [if_neg e, List.map_cons, List.map_cons, ih h]
theorem aput_nodup {ps : List (Str × β)} {k : Str} {v : β} (hn : (ps.map (·.1)).Nodup) : ((aput ps k v).map (·.1)).Nodup := by
  cases h : ps.lookup k with
  | some x => rw [aput_keys h]; exact hn
  | none =>
    rw [aput_new h, List.map_append, List.nodup_append]
    refine ⟨hn, by simp, ?_⟩
    intro x hx y hy e
    simp at hy
    exact lookup_key.1 h (by rw [← hy, ← e]; exact hx)
theorem mem_aput {ps : List (Str × β)} {k : Str} {v : β} (hn : (ps.map (·.1)).Nodup) {p : Str × β} (h : p ∈ aput ps k v) : p = (k, v) ∨ (p ∈ ps ∧ p.1 ≠ k) := by
  have h1 := lookup_mem (aput_nodup hn) (k := p.1) (x := p.2) h
  rw [lookup_aput] at h1
  split at h1
  · rename_i e; left; cases h1; exact Prod.ext e rfl
  · rename_i e; exact .inr ⟨mem_lookup h1, e⟩
theorem adel_sub (ps : List (Str × β)) (k : Str) : (adel ps k).Sublist ps := by
  induction ps with
  | nil => exact List.Sublist.refl _
  | cons p ps ih =>
    obtain ⟨k', v'⟩ := p
    unfold adel
    split
    · exact List.sublist_cons_self ..
    · exact ih.cons_cons _
theorem adel_nodup {ps : List (Str × β)} {k : Str} (hn : (ps.map (·.1)).Nodup) : ((adel ps k).map (·.1)).Nodup := List.Nodup.sublist ((adel_sub ps k).map _) hn
theorem adel_no {ps : List (Str × β)} {k : Str} (h : ps.lookup k = none) : adel ps k = ps := by
  induction ps with
  | nil => rfl
  | cons p ps ih =>
    obtain ⟨k', v'⟩ := p
    rw [List.lookup_cons] at h
    by_cases e : k = k'
    · subst e; simp at h
    · rw [show (k == k') = false by simpa using e] at h
      unfold adel
      rw [if_neg e, ih h]
theorem lookup_adel {ps : List (Str × β)} {k : Str} (hn : (ps.map (·.1)).Nodup) (j : Str) : (adel ps k).lookup j = if j = k then none else ps.lookup j := by
  induction ps with
  | nil => show none = _; split <;> rfl
  | cons p ps ih =>
    obtain ⟨k', v'⟩ := p
    rw [List.map_cons, List.nodup_cons] at hn
    unfold adel
    by_cases c : k = k'
    · rw [if_pos c]
      subst c
      by_cases e : j = k
      · subst e; rw [if_pos rfl]; exact lookup_key.2 hn.1
      · rw [if_neg e, List.lookup_cons, show (j == k) = false by simpa using e]
    · rw [if_neg c, List.lookup_cons, List.lookup_cons, ih hn.2]
      by_cases e : j = k'
      · subst e
        simp
        intro h; exact absurd h.symm c
      · rw [show (j == k') = false by simpa using e]
theorem mem_adel {ps : List (Str × β)} {k : Str} (hn : (ps.map (·.1)).Nodup) {p : Str × β} (h : p ∈ adel ps k) : p ∈ ps ∧ p.1 ≠ k := by
  have h1 := lookup_mem (adel_nodup hn) (k := p.1) (x := p.2) h
  rw [lookup_adel hn] at h1
  split at h1
  · cases h1
  · rename_i e; exact ⟨mem_lookup h1, e⟩
end

/-- a file: its bytes, how many of them are safe -/
structure Fl where
  b : Str
  safe : Nat
abbrev Fs := List (Str × Fl)
abbrev Ps := List (Str × Nat × Fl)
abbrev vI (x : Int) : Value := .int .i64 x
abbrev vU (c : UInt8) : Value := .int .u8 c.toNat
abbrev ptr (b : Nat) : Value := .pointer (some ⟨b, 0, none⟩)
def kvp (p : Str × Nat × Fl) : Str × Value := (p.1, ptr p.2.1)
def pfs (ps : Ps) : Fs := ps.map fun p => (p.1, p.2.2)
theorem kvp_put (ps : Ps) (k : Str) (b : Nat) (f : Fl) : mput (ps.map kvp) k (ptr b) = (aput ps k (b, f)).map kvp := by
  induction ps with
  | nil => rfl
  | cons p ps ih =>
    obtain ⟨k', b', f'⟩ := p
    rw [List.map_cons]
    unfold kvp mput aput
    split
    · rfl
    · rw [List.map_cons]; congr 1
theorem kvp_del (ps : Ps) (k : Str) : mdel (ps.map kvp) k = (adel ps k).map kvp := by
  induction ps with
  | nil => rfl
  | cons p ps ih =>
    obtain ⟨k', b', f'⟩ := p
    rw [List.map_cons]
    unfold kvp mdel adel
    split
    · rfl
    · rw [List.map_cons]; congr 1
theorem kvp_same {ps : Ps} {k : Str} {b : Nat} {f f' : Fl} (h : ps.lookup k = some (b, f)) : (aput ps k (b, f')).map kvp = ps.map kvp := by
  induction ps with
  | nil => cases h
  | cons p ps ih =>
    obtain ⟨k', b', g⟩ := p
    rw [List.lookup_cons] at h
    unfold aput
    by_cases e : k = k'
    · subst e; simp at h; obtain ⟨rfl, rfl⟩ := h; rw [if_pos rfl]; rfl
    · rw [show (k == k') = false by simpa using e] at h
      rw [if_neg e, List.map_cons, List.map_cons, ih h]
theorem kvp_lookup (ps : Ps) (k : Str) : (ps.map kvp).lookup k = (ps.lookup k).map fun x => ptr x.1 := by
  induction ps with
  | nil => rfl
  | cons p ps ih =>
    obtain ⟨k', b', g⟩ := p
    rw [List.map_cons]
    unfold kvp
    rw [List.lookup_cons, List.lookup_cons]
    by_cases e : k = k'
    · subst e; simp
    · rw [show (k == k') = false by simpa using e]; exact ih
theorem pfs_put (ps : Ps) (k : Str) (b : Nat) (f : Fl) : pfs (aput ps k (b, f)) = aput (pfs ps) k f := by
  induction ps with
  | nil => rfl
  | cons p ps ih =>
    obtain ⟨k', b', f'⟩ := p
    unfold pfs at ih ⊢
    rw [List.map_cons]
    unfold aput
    split
    · rfl
    · rw [List.map_cons]; congr 1
theorem pfs_del (ps : Ps) (k : Str) : pfs (adel ps k) = adel (pfs ps) k := by
  induction ps with
  | nil => rfl
  | cons p ps ih =>
    obtain ⟨k', b', f'⟩ := p
    unfold pfs at ih ⊢
    rw [List.map_cons]
    unfold adel
    split
    · rfl
    · rw [List.map_cons]; congr 1
theorem pfs_lookup (ps : Ps) (k : Str) : (pfs ps).lookup k = (ps.lookup k).map (·.2) := by
  induction ps with
  | nil => rfl
  | cons p ps ih =>
    obtain ⟨k', b', g⟩ := p
    unfold pfs at ih ⊢
    rw [List.map_cons, List.lookup_cons, List.lookup_cons]
    by_cases e : k = k'
    · subst e; simp
    · rw [show (k == k') = false by simpa using e]; exact ih
theorem pfs_keys (ps : Ps) : (pfs ps).map (·.1) = ps.map (·.1) := by unfold pfs; rw [List.map_map]; rfl

/-- a row that may have less room than its block -/
def RowC (tag : Nat → Nat) (σ : AH) (r : Nat) (e : TypeId) (s : Sl) (l : List Value) : Prop := ∃ c, Row tag σ r e ⟨s.a, s.len, c⟩ l ∧ s.len ≤ s.cap ∧ s.cap ≤ c
theorem _root_.Go.Proofs.YtfobjidchipdaaaGreatDoor.SL.Row.c {r : Nat} {e : TypeId} {s : Sl} {l : List Value} (h : Row tag σ r e s l) : RowC tag σ r e s l := ⟨s.cap, h, by have := SL.Row.capAt h; rw [SL.Row.len h]; exact this, Nat.le_refl _⟩
theorem RowC.len {r : Nat} {e : TypeId} {s : Sl} {l : List Value} (h : RowC tag σ r e s l) : s.len = l.length := by obtain ⟨c, h, _⟩ := h; exact h.len
theorem RowC.keep {R : List Nat} {r : Nat} {e : TypeId} {s : Sl} {l : List Value} (h : RowC tag σ r e s l) (k : Step R ro tag σ tag' σ') (hr : r ∉ R) : RowC tag' σ' r e s l := by
  obtain ⟨c, h, x⟩ := h; exact ⟨c, h.keep k hr, x⟩
theorem RowC.read {r : Nat} {e : TypeId} {s : Sl} {l : List Value} (h : RowC tag σ r e s l) (hs : Sep ro σ) : SL.Read ro σ s l := by
  obtain ⟨c, h, _⟩ := h; exact h.read hs
theorem awp_appendC {r : Nat} {e t : TypeId} {s s2 : Sl} {l l2 : List Value} {zv : Value} {bytes : Nat} {ty : TypeId} {Q : Value → AH → Prop} (h : RowC tag σ r e s l) (hs : Sep ro σ) (h2 : SL.Read ro σ s2 l2)
    (ht : P.underlying t = some (.slice e)) (hz : TyIs P e zv 1 bytes) (hzc : zv.cells = #[zv]) (hv : ∀ v ∈ l2, storable v = true) (hb : (l.length + l2.length) * bytes ≤ 140737488355328) (hb0 : 0 < bytes)
    (hK : ∀ s' tag' σ', (∀ R, s.len = s.cap ∨ r ∈ R → Step R ro tag σ tag' σ') → RowC tag' σ' r e s' (l ++ l2) → Q (Sl.v s') σ') :
    awp P ro (Builtin.append_ #[t, t] ty #[Sl.v s, Sl.v s2]) Q σ := by
  obtain ⟨i, hi, hiz, his, hib⟩ := hz
  have hz : TyIs P e zv 1 bytes := ⟨i, hi, hiz, his, hib⟩
  have g0 : (#[t, t] : Array TypeId)[0]? = some t := rfl
  have g1 : (#[t, t] : Array TypeId)[1]? = some t := rfl
  have g2 : (#[Value.slice s.a s.len s.cap, Value.slice s2.a s2.len s2.cap] : Array Value)[0]? = some (Value.slice s.a s.len s.cap) := rfl
  have g3 : (#[Value.slice s.a s.len s.cap, Value.slice s2.a s2.len s2.cap] : Array Value)[1]? = some (Value.slice s2.a s2.len s2.cap) := rfl
  have hln := h2.1
  have hld : ∀ {β : Type} (f : Array Value → Sem β) (Q : β → AH → Prop), awp P ro (f l2.toArray) Q σ → awp P ro (Sem.bind (Builtin.firstCells 1 s2.len (.slice s2.a s2.len s2.cap)) f) Q σ := by
    intro β f Q hf
    cases hsa : s2.a with
    | none =>
      rw [h2.2.1 hsa] at hf
      exact hf
    | some p =>
      rw [show Sem.bind (Builtin.firstCells 1 s2.len (.slice (some p) s2.len s2.cap)) f = (loadCells p (s2.len * 1)) >>= f from rfl, awp_bind, Nat.mul_one, hln]
      exact awp_loadCells l2 0 #[] (cellsAt_of 0 fun j v hj => by rw [Nat.zero_add]; exact h2.2.2 p hsa j v hj) (by simpa using hf)
  unfold Builtin.append_
  simp only [Sl.v, bind_def, pure_def, g0, g1, g2, g3]
  rw [awp_underlying ht]
  simp only []
  rw [awp_size hz]
  rw [awp_underlying ht]
  simp only [bind_pure', Builtin.lenOf, bind_def, pure_def, Bool.false_eq_true, if_false, Bool.not_false, if_true, false_or]
  split
  · rename_i hroom
    refine hld _ _ ?_
    have h' := h
    obtain ⟨cc, hR, hc1, hc2⟩ := h
    rcases hR with ⟨heq, rfl⟩ | ⟨b, cs, ha, htg, hbk, hln1, hcp, hle, hg⟩
    · obtain ⟨sa, sl, sc⟩ := s
      simp only [Sl.mk.injEq] at heq
      obtain ⟨rfl, rfl, rfl⟩ := heq
      simp only at hroom hc1 hc2
      have hsc : sc = 0 := by omega
      subst hsc
      have h0 : l2 = [] := List.eq_nil_of_length_eq_zero (by omega)
      subst h0
      have hs2 : s2.len = 0 := hln
      show Q (.slice none (0 + s2.len) 0) σ
      rw [hs2]
      exact hK ⟨none, 0, 0⟩ tag σ (fun _ _ => Step.refl hs) ⟨0, .inl ⟨rfl, rfl⟩, Nat.le_refl _, Nat.le_refl _⟩
    · simp only at ha hln1 hcp hle
      by_cases h0 : l2 = []
      · subst h0
        have hs2 : s2.len = 0 := hln
        simp only [ha]
        show Q (Value.slice (some ⟨b, 0, none⟩) (s.len + s2.len) s.cap) σ
        rw [hs2, Nat.add_zero]
        have := hK s tag σ (fun _ _ => Step.refl hs) (by rw [List.append_nil]; exact h')
        unfold Sl.v at this
        rw [ha] at this; exact this
      have hpos := List.length_pos_iff.2 h0
      simp only [ha]
      show awp P ro (storeCells (Addr.add ⟨b, 0, none⟩ (s.len * 1)) l2 >>= fun _ => Sem.pure (Value.slice (some ⟨b, 0, none⟩) (s.len + s2.len) s.cap)) Q σ
      rw [awp_bind, add_add, Nat.mul_one, Nat.zero_add]
      refine awp_storeCells l2 0 σ (stN_blk l2 cs 0 σ hbk (by omega) hv fun cs' c1 c2 c3 => ?_)
      show Q (Value.slice (some ⟨b, 0, none⟩) (s.len + s2.len) s.cap) _
      refine hK ⟨some ⟨b, 0, none⟩, s.len + s2.len, s.cap⟩ tag _ (fun R hR => (step_obj hs htg hbk).mono fun x hx => by rw [List.mem_singleton] at hx; rw [hx]; exact hR.resolve_left (by omega)) ⟨cc, .inr ⟨b, cs', rfl, htg, upd_same _ _ _, by simp [hln1, hln], by rw [c1]; exact hcp, by simp only; omega, fun i hi => ?_⟩, hroom, hc2⟩
      simp at hi
      rcases Nat.lt_or_ge i l.length with hh | hh
      · rw [c2 i (by omega), List.getElem?_append_left hh]; exact hg i hh
      · rw [List.getElem?_append_right hh]
        have := c3 (i - l.length) _ (List.getElem?_eq_getElem (by omega))
        rw [List.getElem?_eq_getElem (by omega), ← this]
        congr 1; omega
  · rename_i hroom
    rw [awp_typeInfo hi]
    rw [if_neg (by rw [hib]; omega)]
    rw [awp_typeInfo hi]
    have hl := h.len
    rw [if_neg (by rw [hib]; have := growslice_fits (need := s.len + s2.len) (old := s.cap) (bytes := bytes) (by omega) (by rw [hl, hln]; exact hb); omega)]
    refine awp_choose rfl (fun n => ?_)
    rw [awp_typeInfo hi]
    refine awp_askRoom ?_
    have hcut : s.len + s2.len ≤ (Question.appendCap (s.len + s2.len) s.cap e).cut n := by simp only [Question.cut]; omega
    generalize (Question.appendCap (s.len + s2.len) s.cap e).cut n = N at hcut
    obtain ⟨cc, hR, hc1, hc2⟩ := h
    refine Eq.mpr (congrArg (fun x => awp P ro (Sem.bind x _) Q σ) (show Builtin.firstCells 1 s.len (.slice s.a s.len s.cap) = Builtin.firstCells 1 s.len (.slice s.a s.len cc) from by cases s.a <;> rfl)) ?_
    refine awp_first hR hs ?_
    refine hld _ _ ?_
    rw [awp_zero hz]
    rw [hzc]
    show ∀ b, ro b = none → σ b = none → Q (Value.slice (some ⟨b, 0, none⟩) (s.len + s2.len) N) (upd σ b _)
    intro b hro hb
    refine hK ⟨some ⟨b, 0, none⟩, s.len + s2.len, N⟩ (setTag tag b r) _ (fun _ _ => Step.fresh hs hro hb) ⟨N, .inr ⟨b, _, rfl, by simp [setTag], upd_same _ _ _, by simp [hl, hln], ?_, hcut, fun i hi => ?_⟩, hcut, Nat.le_refl _⟩
    · simp [Builtin.zeroCells]; omega
    · simp at hi
      rw [Array.getElem?_append_left (by simp; omega)]
      simp

/-- a file in memory: its block and its bytes -/
def FileAt (tf : TypeId) (tag : Nat → Nat) (σ : AH) (r b : Nat) (f : Fl) : Prop :=
  ∃ s : Sl, Row tag σ (r + 64 * (2 * b + 2)) tf ⟨some ⟨b, 0, none⟩, 2, 2⟩ [Sl.v s, vI f.safe] ∧ RowC tag σ (r + 64 * (2 * b + 3)) 5 s (f.b.map vU)
theorem FileAt.keep {tf : TypeId} {R : List Nat} {r b : Nat} {f : Fl} (h : FileAt tf tag σ r b f) (k : Step R ro tag σ tag' σ') (h1 : r + 64 * (2 * b + 2) ∉ R) (h2 : r + 64 * (2 * b + 3) ∉ R) : FileAt tf tag' σ' r b f := by
  obtain ⟨s, a, c⟩ := h
  exact ⟨s, a.keep k h1, c.keep k h2⟩
/-- a disk in memory -/
structure DiskAt (td tf : TypeId) (tag : Nat → Nat) (σ : AH) (r T M : Nat) (cap : Int) (ps : Ps) : Prop where
  keys : (ps.map (·.1)).Nodup
  nd : (ps.map (·.2.1)).Nodup
  cell : Row tag σ r td ⟨some ⟨T, 0, none⟩, 2, 2⟩ [.map (some M), vI cap]
  map : MapIs tag σ (r + 64) M (ps.map kvp)
  nodes : ∀ p ∈ ps, FileAt tf tag σ r p.2.1 p.2.2
theorem DiskAt.keep {td tf : TypeId} {R : List Nat} {r T M : Nat} {cap : Int} {ps : Ps} (h : DiskAt td tf tag σ r T M cap ps) (k : Step R ro tag σ tag' σ') (hR : ∀ x ∈ R, x % 64 ≠ r % 64) : DiskAt td tf tag' σ' r T M cap ps :=
  ⟨h.keys, h.nd, h.cell.keep k fun m => hR _ m rfl, h.map.keep k fun m => hR _ m (by omega), fun p hp => (h.nodes p hp).keep k (fun m => hR _ m (by omega)) fun m => hR _ m (by omega)⟩
theorem inj_of {α γ : Type} {f : α → γ} : ∀ {l : List α}, (l.map f).Nodup → ∀ {x y : α}, x ∈ l → y ∈ l → f x = f y → x = y := by
  intro l
  induction l with
  | nil => intro _ x y h; cases h
  | cons a l ih =>
    intro hn x y hx hy e
    rw [List.map_cons, List.nodup_cons] at hn
    rcases List.mem_cons.1 hx with e1 | hx'
    · rcases List.mem_cons.1 hy with e2 | hy'
      · rw [e1, e2]
      · exact absurd (by rw [← e1, e]; exact List.mem_map.2 ⟨y, hy', rfl⟩) hn.1
    · rcases List.mem_cons.1 hy with e2 | hy'
      · exact absurd (by rw [← e2, ← e]; exact List.mem_map.2 ⟨x, hx', rfl⟩) hn.1
      · exact ih hn.2 hx' hy' e
/-- a file changes where it stands -/
theorem DiskAt.write {td tf : TypeId} {R : List Nat} {r T M b : Nat} {cap : Int} {ps : Ps} {k : Str} {f f' : Fl} (h : DiskAt td tf tag σ r T M cap ps) (hk : ps.lookup k = some (b, f)) (st : Step R ro tag σ tag' σ')
    (hR : ∀ x ∈ R, x = r + 64 * (2 * b + 2) ∨ x = r + 64 * (2 * b + 3)) (hf : FileAt tf tag' σ' r b f') : DiskAt td tf tag' σ' r T M cap (aput ps k (b, f')) := by
  have hm := mem_lookup hk
  refine ⟨aput_nodup h.keys, ?_, h.cell.keep st fun m => ?_, ?_, fun p hp => ?_⟩
  · have e : (aput ps k (b, f')).map (·.2.1) = ps.map (·.2.1) := by
      clear h hm
      induction ps with
      | nil => cases hk
      | cons p ps ih =>
        obtain ⟨k', b', g⟩ := p
        rw [List.lookup_cons] at hk
        unfold aput
        by_cases e : k = k'
        · subst e; simp at hk; obtain ⟨rfl, rfl⟩ := hk; rw [if_pos rfl]; rfl
        · rw [show (k == k') = false by simpa using e] at hk
          rw [if_neg e, List.map_cons, List.map_cons, ih hk]
    rw [e]; exact h.nd
  · have := hR _ m; omega
  · rw [kvp_same hk]; exact h.map.keep st fun m => by have := hR _ m; omega
  · rcases mem_aput h.keys hp with rfl | ⟨hp, hne⟩
    · exact hf
    · have hb : p.2.1 ≠ b := fun e => hne (by have := inj_of h.nd hp hm e; rw [this])
      exact (h.nodes p hp).keep st (fun m => by have := hR _ m; omega) fun m => by have := hR _ m; omega
theorem nodup_put {ps : Ps} {k : Str} {b : Nat} {f : Fl} : (ps.map (·.2.1)).Nodup → (∀ p ∈ ps, p.2.1 ≠ b) → ((aput ps k (b, f)).map (·.2.1)).Nodup := by
  induction ps with
  | nil => intro _ _; simp [aput]
  | cons p ps ih =>
    intro hn hb
    obtain ⟨k', b', g⟩ := p
    rw [List.map_cons, List.nodup_cons] at hn
    unfold aput
    split
    · rw [List.map_cons, List.nodup_cons]
      refine ⟨fun hm => ?_, hn.2⟩
      obtain ⟨p, hp, e⟩ := List.mem_map.1 hm
      exact hb p (by simp [hp]) e
    · rw [List.map_cons, List.nodup_cons]
      refine ⟨fun hm => ?_, ih hn.2 fun p hp => hb p (by simp [hp])⟩
      have sub : ∀ (l : Ps) x, x ∈ (aput l k (b, f)).map (·.2.1) → x = b ∨ x ∈ l.map (·.2.1) := by
        intro l
        induction l with
        | nil => intro x hx; simp [aput] at hx; exact .inl hx
        | cons q l ih =>
          intro x hx
          obtain ⟨k2, b2, g2⟩ := q
          unfold aput at hx
          split at hx
          · simp only [List.map_cons, List.mem_cons] at hx ⊢
            rcases hx with h | h
            · exact .inl h
            · exact .inr (.inr h)
          · simp only [List.map_cons, List.mem_cons] at hx ⊢
            rcases hx with h | h
            · exact .inr (.inl h)
            · rcases ih x h with h | h
              · exact .inl h
              · exact .inr (.inr h)
      rcases sub ps _ hm with h | h
      · exact hb (k', b', g) (by simp) h
      · exact hn.1 h
/-- a file under a name -/
theorem DiskAt.put {td tf : TypeId} {R : List Nat} {r T M b : Nat} {cap : Int} {ps : Ps} {k : Str} {f : Fl} (h : DiskAt td tf tag σ r T M cap ps) (hnb : ∀ p ∈ ps, p.2.1 ≠ b) (st : Step R ro tag σ tag' σ')
    (hR : ∀ x ∈ R, x = r + 64 ∨ x = r + 64 * (2 * b + 2) ∨ x = r + 64 * (2 * b + 3)) (hf : FileAt tf tag' σ' r b f) (hm : MapIs tag' σ' (r + 64) M (mput (ps.map kvp) k (ptr b))) : DiskAt td tf tag' σ' r T M cap (aput ps k (b, f)) := by
  refine ⟨aput_nodup h.keys, nodup_put h.nd hnb, h.cell.keep st fun m => ?_, ?_, fun p hp => ?_⟩
  · have := hR _ m; omega
  · rw [kvp_put ps k b f] at hm; exact hm
  · rcases mem_aput h.keys hp with rfl | ⟨hp, hne⟩
    · exact hf
    · have hb := hnb p hp
      exact (h.nodes p hp).keep st (fun m => by have := hR _ m; omega) fun m => by have := hR _ m; omega
theorem DiskAt.free {td tf : TypeId} {r T M b : Nat} {cap : Int} {ps : Ps} (h : DiskAt td tf tag σ r T M cap ps) (hb : σ b = none) : ∀ p ∈ ps, p.2.1 ≠ b := fun p hp e => by
  obtain ⟨s, hr, _⟩ := h.nodes p hp
  obtain ⟨_, o, ho⟩ := hr.tagOf
  rw [e, hb] at ho; cases ho
/-- a file goes -/
theorem DiskAt.rem {td tf : TypeId} {R : List Nat} {r T M : Nat} {cap : Int} {ps : Ps} {k : Str} (h : DiskAt td tf tag σ r T M cap ps) (st : Step R ro tag σ tag' σ') (hR : ∀ x ∈ R, x = r + 64)
    (hm : MapIs tag' σ' (r + 64) M (mdel (ps.map kvp) k)) : DiskAt td tf tag' σ' r T M cap (adel ps k) := by
  refine ⟨adel_nodup h.keys, List.Nodup.sublist ((adel_sub ps k).map _) h.nd, h.cell.keep st fun m => ?_, ?_, fun p hp => ?_⟩
  · have := hR _ m; omega
  · rw [kvp_del] at hm; exact hm
  · exact (h.nodes p ((adel_sub ps k).subset hp)).keep st (fun m => by have := hR _ m; omega) fun m => by have := hR _ m; omega
end Go.Proofs.YtfobjidchipdaaaGreatDoor.Dk

/- A range over a map by an invariant: the pairs come in some order. Generic over any program. -/
namespace Go.Proofs.YtfobjidchipdaaaGreatDoor.SL
open Go
set_option linter.unusedSimpArgs false
set_option linter.unusedVariables false
variable {P : Program} {B : World} {ro σ σ' : AH} {tag tag' : Nat → Nat}
def kvE (e : MapEntry) : Str × Value := (match e.key with | .string s => L s | _ => [], e.val)
theorem kvE_map : ∀ {l : List MapEntry} {m : KV}, l.map entV = m.map pairV → l.map kvE = m ∧ ∀ e ∈ l, e.key = .string (S (kvE e).1) := by
  intro l
  induction l with
  | nil => intro m h; cases m with
    | nil => exact ⟨rfl, fun e h => by cases h⟩
    | cons p m => cases h
  | cons e l ih =>
    intro m h
    cases m with
    | nil => cases h
    | cons p m =>
      simp only [List.map_cons, List.cons.injEq] at h
      obtain ⟨h1, h2⟩ := h
      obtain ⟨i1, i2⟩ := ih h2
      have hk : e.key = .string (S p.1) := congrArg Prod.fst h1
      have hv : e.val = p.2 := congrArg Prod.snd h1
      have he : kvE e = p := by unfold kvE; rw [hk, hv]; simp
      refine ⟨by rw [List.map_cons, he, i1], fun x hx => ?_⟩
      rcases List.mem_cons.1 hx with rfl | hx
      · rw [he]; exact hk
      · exact i2 x hx
theorem map_loop {T : Type} {F : Addr → T → AH → (T → AH → Prop) → Prop} {t kt et ty : TypeId} {r M : Nat} {m : KV} {R : List Nat} {s0 : T} (ht : P.underlying t = some (.map kt et)) (hm : MapIs tag σ r M m) (hs : Sep ro σ) (hR : r ∉ R) (h0 : 0 ∉ R) (hr0 : r ≠ 0)
    (J : KV → T → (Nat → Nat) → AH → Prop) {E : T → AH → Prop} {G : T → Value → Value → AH → (T → AH → Prop) → Prop}
    (hF : ∀ p s σ Y, awp P ro (Instr.next (.pointer (some p)) false ty) (fun v σ => (v = .tuple #[.bool false] ∧ E s σ) ∨ (∃ (a b : Value), v = .tuple #[.bool true, a, b] ∧ awp P ro (Instr.entry (.pointer (some p))) (fun v σ => ∃ a b, v = .tuple #[a, b] ∧ G s a b σ Y) σ)) σ → F p s σ Y)
    (hJ : ∀ d s tag σ tag' σ', J d s tag σ → Step [0] ro tag σ tag' σ' → J d s tag' σ')
    (hend : ∀ d s tag σ, d.Perm m → SL.Sep ro σ → J d s tag σ → E s σ)
    (hstep : ∀ d p q s tag σ Y, (d ++ p :: q).Perm m → SL.Sep ro σ → J d s tag σ → MapIs tag σ r M m → (∀ s' tag' σ', Step R ro tag σ tag' σ' → J (d ++ [p]) s' tag' σ' → Y s' σ') → G s (.string (S p.1)) p.2 σ Y)
    (h : J [] s0 tag σ) : awp P ro (Instr.range t (.map (some M))) (fun v σ => ∃ p : Addr, v = .pointer (some p) ∧ lfpD (F p) s0 σ) σ := by
  refine awp_range_map ht hm hs fun es clock x hM hes hbn hro hx => ?_
  refine ⟨_, rfl, ?_⟩
  obtain ⟨k1, k2⟩ := kvE_map hes
  have hxM : x ≠ M := fun e => by rw [e, hM] at hx; cases hx
  suffices ∀ (n : Nat) (D rest : List MapEntry) (seen : Array Nat) (s : T) (tag1 : Nat → Nat) (σ1 : AH), rest.length = n → (D ++ rest).Perm es.toList → (∀ e ∈ D, seen.contains e.born = true) → (∀ e ∈ rest, seen.contains e.born = false) →
      SL.Sep ro σ1 → tag1 x = 0 → σ1 x = some (.mapIter (some M) clock seen clock) → tag1 M = r → σ1 M = some (.map es clock) → J (D.map kvE) s tag1 σ1 → lfpD (F ⟨x, 0, none⟩) s σ1 from by
    have st1 : Step [0] ro tag σ (setTag tag x 0) (upd σ x (.mapIter (some M) clock #[] clock)) := Step.fresh hs hro hx
    exact this _ [] es.toList #[] s0 _ _ rfl (List.Perm.refl _) (fun e h => by cases h) (fun e _ => by simp) st1.sep (by simp [setTag]) (upd_same _ _ _) (by simp [setTag, hxM.symm]; exact hm.tg) (by rw [upd_ne _ _ hxM.symm]; exact hM) (hJ _ _ _ _ _ _ h st1)
  intro n
  induction n with
  | zero =>
    intro D rest seen s tag1 σ1 hn hp hD hrest hs1 htx hit htm hmp hA
    obtain rfl := List.length_eq_zero_iff.1 hn
    rw [List.append_nil] at hp
    refine lfpD.intro (hF _ _ _ _ ?_)
    refine awp_next_map hit hmp hs1 hbn (fun hall => .inl ⟨rfl, hend _ s tag1 σ1 ?_ hs1 hA⟩) fun e he hne => ?_
    · have := hp.map kvE; rwa [k1] at this
    · have := hD e (hp.mem_iff.2 he); rw [hne] at this; cases this
  | succ n ih =>
    intro D rest seen s tag1 σ1 hn hp hD hrest hs1 htx hit htm hmp hA
    refine lfpD.intro (hF _ _ _ _ ?_)
    refine awp_next_map hit hmp hs1 hbn (fun hall => ?_) fun e he hne => ?_
    · exfalso
      cases rest with
      | nil => simp at hn
      | cons e rest =>
        have h1 := hall e (hp.mem_iff.1 (by simp))
        have h2 := hrest e (by simp)
        rw [h1] at h2; cases h2
    · refine .inr ⟨_, _, rfl, ?_⟩
      have st2 : Step [0] ro tag1 σ1 tag1 (upd σ1 x (.mapIter (some M) clock (seen.push e.born) clock)) := step_obj hs1 htx hit
      have hmp2 : upd σ1 x (.mapIter (some M) clock (seen.push e.born) clock) M = some (.map es clock) := by rw [upd_ne _ _ hxM.symm]; exact hmp
      refine awp_entry_map (upd_same _ _ _) hmp2 st2.sep hbn he ?_
      refine ⟨e.key, e.val, rfl, ?_⟩
      have hin : e ∈ rest := by
        rcases List.mem_append.1 (hp.mem_iff.2 he) with h | h
        · have := hD e h; rw [hne] at this; cases this
        · exact h
      obtain ⟨a, b, rfl⟩ := List.append_of_mem hin
      have hp2 : (D ++ e :: (a ++ b)).Perm es.toList := (List.Perm.append_left D List.perm_middle.symm).trans hp
      rw [k2 e he, show e.val = (kvE e).2 from rfl]
      have hnd : ((D ++ e :: (a ++ b)).map (·.born)).Nodup := (hp2.map _).nodup_iff.2 hbn.nd
      refine hstep (D.map kvE) (kvE e) ((a ++ b).map kvE) s tag1 _ _ ?_ st2.sep (hJ _ _ _ _ _ _ hA st2) ⟨htm, es, clock, hmp2, hes, hbn⟩ fun s' tag2 σ2 st3 hJ2 => ?_
      · have := hp2.map kvE
        rw [k1] at this
        simpa using this
      · have e1 := st3.keep x _ (upd_same _ _ _) (by rw [htx]; exact h0)
        have e2 := st3.keep M _ hmp2 (by rw [htm]; exact hR)
        refine ih (D ++ [e]) (a ++ b) (seen.push e.born) s' tag2 σ2 (by simp at hn ⊢; omega) (by simpa using hp2) (fun y hy => ?_) (fun y hy => ?_) st3.sep (e1.1.trans htx) e1.2 (e2.1.trans htm) e2.2 (by simpa using hJ2)
        · rcases List.mem_append.1 hy with h | h
          · have := hD y h; simp at this ⊢; exact .inl this
          · rw [List.mem_singleton.1 h]; simp
        · have h1 : seen.contains y.born = false := hrest y (by simp at hy ⊢; rcases hy with h | h <;> simp [h])
          have h2 : y.born ≠ e.born := by
            rw [List.map_append, List.map_cons, List.nodup_append] at hnd
            have := (List.nodup_cons.1 hnd.2.1).1
            intro hh
            exact this (by rw [← hh]; exact List.mem_map.2 ⟨y, hy, rfl⟩)
          rw [← Bool.not_eq_true] at h1 ⊢
          simp at h1 ⊢
          exact ⟨h1, h2⟩
end Go.Proofs.YtfobjidchipdaaaGreatDoor.SL

/- Functions as predicate transformers, and the proofs that the code does what they tell: printed by wip/tools/gen.py. -/
namespace Go.Proofs.YtfobjidchipdaaaGreatDoor.G
open Go Go.Proofs.YtfobjidchipdaaaGreatDoor.SL
set_option linter.unusedVariables false
set_option linter.unusedSimpArgs false

def f_disk_New (B : World) (ro : AH) (a0 : Int) (σ : AH) (Q : Option Addr → Int → AH → Prop) : Prop :=
 if (a0 < 0) ∨ (1073741824 < a0) then
  Q none 32 σ
 else
 nw ro σ (.map #[] 0) fun x10_1 σ =>
 nw ro σ (.cells #[.map (some x10_1), .int .i64 a0] 39) fun x13_2 σ =>
 Q (some ⟨x13_2, 0, none⟩) 0 σ

set_option maxRecDepth 100000 in
set_option maxHeartbeats 4000000 in
theorem disk_New_ok {B : World} {ro : AH} {a0 : Int} {σ : AH} {Q : Option Addr → Int → AH → Prop} (h : Sep ro σ → f_disk_New B ro a0 σ Q) : c_disk_New B ro a0 σ Q := by
  refine ACalls.of_sep fun hsep => ?_
  replace h := h hsep
  refine ACalls.of_body (args := [.int .i64 a0]) Tryz.func9 rfl (by rw [Tryz.ntmps9]; simp) ?_
  rw [Tryz.ntmps9]
  unfold f_disk_New at h
  refine AW.seq ?_
  refine AW.reg ?_
  refine Lp (V_asg rfl rfl) rfl rfl ?_
  refine Lp (V_asg rfl rfl) rfl rfl ?_
  refine Lnil ?_
  refine thenN ?_
  refine AW.seq ?_
  refine AW.seq ?_
  refine AW.reg ?_
  refine Lp (V_move rfl rfl) rfl rfl ?_
  refine Lp (V_lss rfl rfl rfl) rfl rfl ?_
  refine Lp (V_move rfl rfl) rfl rfl ?_
  refine Lsplit 3 (decide (a0 < 0)) [(0, .int .i64 a0), (9, .bool ((decide (a0 < 0)) || (decide (1073741824 < a0))))] ?_ ?_ ?_
  · intro e2 hk2
    refine Ln rfl rfl rfl rfl (.inl (by rw [e2]; rfl)) ?_
    refine Ln rfl rfl rfl rfl (.inl (by rw [e2]; rfl)) ?_
    refine Lp (V_pickT rfl (evb e2) rfl) rfl rfl ?_
    exact hk2 _ (FrLe.cons rfl (FrLe.cons (by rw [e2]; rfl) (FrLe.nil _)))
  · intro e2 hk2
    refine Lypb (V_move rfl rfl) rfl rfl rfl rfl e2 ?_
    refine Lypb (V_gtr rfl rfl rfl) rfl rfl rfl rfl e2 ?_
    refine Lp (V_pickF rfl (evb e2) rfl) rfl rfl ?_
    exact hk2 _ (FrLe.cons rfl (FrLe.cons (by rw [e2]; rfl) (FrLe.nil _)))
  intro fr hl
  refine Lfr hl ?_
  refine Lnil ?_
  refine thenN ?_
  refine AW.iff rfl (bor_iff decide_eq_true_iff decide_eq_true_iff) h (fun h => ?_) (fun h => ?_)
  · refine AW.seq ?_
    refine AW.reg ?_
    refine Lp (V_asg rfl rfl) rfl rfl ?_
    refine Lp (V_asg rfl rfl) rfl rfl ?_
    refine Lnil ?_
    refine thenN ?_
    refine AW.ret ?_
    refine thenR ?_
    exact bR2 Tryz.results9 rfl rfl ⟨_, _, rfl, h⟩
  refine AW.skip ?_
  refine thenN ?_
  refine AW.seq ?_
  refine AW.reg ?_
  refine Ls rfl rfl (X_new (A_map0 rfl) fun x10_1 g1 g2 => ?_)
  replace h := h x10_1 g1 g2
  refine Lp (V_move rfl rfl) rfl rfl ?_
  refine Lp (V_bld (vs := [(0, .map (some x10_1)), (1, .int .i64 a0)]) (cs := #[.map (some x10_1), .int .i64 a0]) rfl Tryz.underlying39 ty39 pl39 rfl rfl) rfl rfl ?_
  refine Ls rfl rfl (X_new (A_box rfl rfl) fun x13_2 g1 g2 => ?_)
  replace h := h x13_2 g1 g2
  refine Lp (V_asg rfl rfl) rfl rfl ?_
  refine Lp (V_asg rfl rfl) rfl rfl ?_
  refine Lnil ?_
  refine thenN ?_
  refine AW.ret ?_
  exact bR2 Tryz.results9 rfl rfl ⟨_, _, rfl, h⟩

def j1_disk_table_Used (B : World) (ro : AH) (Q : Int → AH → Prop) (x3_2 : Int) (σ : AH) : Prop :=
 Q x3_2 σ

def l4_disk_table_Used (B : World) (ro : AH) (p7_3 : Addr) (Q : Int → AH → Prop) : (Int) → AH → ((Int) → AH → Prop) → Prop := fun x3_5 σ Y4 =>
 awp Tryz.prog ro (Instr.next (.pointer (some p7_3)) false 0) (fun v σ =>
  (v = .tuple #[.bool false] ∧
   j1_disk_table_Used B ro Q x3_5 σ) ∨
  (∃ (x8_6 : Value) (x8_7 : Value), v = .tuple #[.bool true, x8_6, x8_7] ∧
   awp Tryz.prog ro (Instr.entry (.pointer (some p7_3))) (fun v σ =>
    (∃ (x10_8 : Value) (x10_9 : Option Addr), v = .tuple #[x10_8, .pointer x10_9] ∧
     ∃ p14_10 : Addr, x10_9 = some p14_10 ∧
     ∃ (x16_11 : Sl), acell ro σ p14_10 = some (Sl.v x16_11) ∧
     Y4 (IntKind.i64.wrap (x3_5 + (x16_11.len : Int))) σ)) σ)) σ

def f_disk_table_Used (B : World) (ro : AH) (a0 : Option Nat) (σ : AH) (Q : Int → AH → Prop) : Prop :=
 awp Tryz.prog ro (Instr.range 37 (.map a0)) (fun v σ =>
  (∃ (p7_3 : Addr), v = .pointer (some p7_3) ∧
   lfpD (l4_disk_table_Used B ro p7_3 Q ) (0) σ)) σ

set_option maxRecDepth 100000 in
set_option maxHeartbeats 4000000 in
theorem disk_table_Used_ok {B : World} {ro : AH} {a0 : Option Nat} {σ : AH} {Q : Int → AH → Prop} (h : Sep ro σ → f_disk_table_Used B ro a0 σ Q) : c_disk_table_Used B ro a0 σ Q := by
  refine ACalls.of_sep fun hsep => ?_
  replace h := h hsep
  refine ACalls.of_body (args := [.map a0]) Tryz.func14 rfl (by rw [Tryz.ntmps14]; simp) ?_
  rw [Tryz.ntmps14]
  unfold f_disk_table_Used at h
  refine AW.seq ?_
  refine AW.reg ?_
  refine Lp (V_asg rfl rfl) rfl rfl ?_
  refine Lnil ?_
  refine thenN ?_
  refine AW.seq ?_
  refine AW.reg ?_
  refine Lp (V_asg rfl rfl) rfl rfl ?_
  refine Lnil ?_
  refine thenN ?_
  refine AW.seqJ (fun fr σ => ∃ (x3_2 : Int), FrLe [(3, .int .i64 x3_2)] fr ∧ j1_disk_table_Used B ro Q x3_2 σ) ?_ ?_
  · rintro fr σ ⟨x3_2, hl, h⟩
    refine AW.weaken ?_ hl (HLe.refl _)
    unfold j1_disk_table_Used at h
    refine AW.seq ?_
    refine AW.reg ?_
    refine Lp (V_move rfl rfl) rfl rfl ?_
    refine Lp (V_asg rfl rfl) rfl rfl ?_
    refine Lnil ?_
    refine thenN ?_
    refine AW.ret ?_
    exact bR1 Tryz.results14 rfl ⟨_, rfl, h⟩
  refine AW.seq ?_
  refine AW.reg ?_
  refine Lp (V_move rfl rfl) rfl rfl ?_
  refine Ls rfl rfl (X_rng rfl rfl (awp_mono _ h ?_))
  rintro v σ ⟨p7_3, rfl, h⟩
  refine Lnil ?_
  refine thenN ?_
  refine AW.block ?_
  refine ARound.loop (fr' := [(7, .pointer (some p7_3)), (3, .int .i64 0)]) ?_ (FrLe.cons rfl (FrLe.cons rfl (FrLe.nil _)))
  refine h (fun x3_5 σ => ARound _ _ _ _ _ _ [(7, .pointer (some p7_3)), (3, .int .i64 x3_5)] σ) ?_
  rintro x3_5 σ Y4 hY4 h
  show AW _ _ _ _ _ _ _ _
  unfold l4_disk_table_Used at h
  refine AW.seq ?_
  refine AW.reg ?_
  refine Ls rfl rfl (X_nxt rfl rfl rfl (awp_mono _ h ?_))
  rintro v σ (⟨rfl, h⟩ | ⟨x8_6, x8_7, rfl, h⟩)
  · refine Lp (V_ext rfl rfl rfl) rfl rfl ?_
    refine Lnil ?_
    refine thenN ?_
    refine AW.seq ?_
    refine AW.no rfl ?_
    refine AW.exit ?_
    refine thenE ?_
    refine thenE ?_
    refine blockE ?_
    refine thenN ?_
    exact ⟨_, (FrLe.cons rfl (FrLe.nil _)), h⟩
  · refine Lp (V_ext rfl rfl rfl) rfl rfl ?_
    refine Lnil ?_
    refine thenN ?_
    refine AW.seq ?_
    refine AW.yes rfl ?_
    refine AW.skip ?_
    refine thenN ?_
    refine AW.block ?_
    refine AW.seq ?_
    refine AW.reg ?_
    refine Ls rfl rfl (X_ent rfl rfl (awp_mono _ h ?_))
    rintro v σ ⟨x10_8, x10_9, rfl, h⟩
    refine Lp (V_ext rfl rfl rfl) rfl rfl ?_
    refine Lp (V_asg rfl rfl) rfl rfl ?_
    refine Lnil ?_
    refine thenN ?_
    refine AW.reg ?_
    refine Lp (V_move rfl rfl) rfl rfl ?_
    refine Lp (V_move rfl rfl) rfl rfl ?_
    obtain ⟨p14_10, hc, h⟩ := h
    refine Lp (V_nil rfl (by rw [← hc]; rfl)) rfl rfl ?_
    refine Lp (V_fld rfl Tryz.underlying104 rfl ty22 (by decide) rfl) rfl rfl ?_
    obtain ⟨x16_11, hc, h⟩ := h
    refine Ls rfl rfl (X_ld rfl Tryz.underlying22 rfl rfl hc ?_)
    refine Lp (V_lenL rfl rfl Tryz.underlying22 rfl rfl) rfl rfl ?_
    refine Lp (V_add rfl rfl rfl) rfl rfl ?_
    refine Lp (V_asg rfl rfl) rfl rfl ?_
    refine Lnil ?_
    refine blockN ?_
    refine thenN ?_
    refine ARound.head (fr' := [(7, .pointer (some p7_3)), (3, .int .i64 (IntKind.i64.wrap (x3_5 + (x16_11.len : Int))))]) ?_ (FrLe.cons rfl (FrLe.cons rfl (FrLe.nil _)))
    exact hY4 _ _ h

def j7_disk_Disk_Crash (B : World) (ro : AH) (a0 : Option Addr) (x13_3 : Sl) (x15_6 : Int) (Q : AH → Prop) (Y4 : (Sl × Int) → AH → Prop) (x1_8 : Sl) (σ : AH) : Prop :=
 Y4 (x1_8, IntKind.i64.wrap (x15_6 + 1)) σ

def j18_disk_Disk_Crash (B : World) (ro : AH) (a0 : Option Addr) (x13_3 : Sl) (x15_6 : Int) (x24_13 : Option Addr) (Q : AH → Prop) (Y4 : (Sl × Int) → AH → Prop) (x1_19 : Sl) (x8_20 : Int) (σ : AH) : Prop :=
 ∃ p49_21 : Addr, x24_13 = some p49_21 ∧
 ∃ (x51_22 : Int), acell ro σ (p49_21.add 1) = some (.int .i64 x51_22) ∧
 ∃ p54_23 : Addr, x24_13 = some p54_23 ∧
 stN (p54_23.add 1) (fun σ =>
  ∃ p58_24 : Addr, x24_13 = some p58_24 ∧
  ∃ p62_25 : Addr, x24_13 = some p62_25 ∧
  ∃ p66_26 : Addr, x24_13 = some p66_26 ∧
  ∃ (x60_27 : Sl), acell ro σ p58_24 = some (Sl.v x60_27) ∧
  ∃ (x64_28 : Int), acell ro σ (p62_25.add 1) = some (.int .i64 x64_28) ∧
  ∃ (x68_29 : Int), acell ro σ (p66_26.add 1) = some (.int .i64 x68_29) ∧
  cutOk3 none x64_28 x68_29 x60_27.cap ∧
  ∃ p70_30 : Addr, x24_13 = some p70_30 ∧
  stN p70_30 (fun σ =>
   j7_disk_Disk_Crash B ro a0 x13_3 x15_6 Q Y4 x1_19 σ) [Sl.v (⟨cutA x60_27.a (0) (Int.toNat x68_29) 1, Int.toNat x64_28 - 0, Int.toNat x68_29 - 0⟩ : Sl)] 0 σ) [.int .i64 (IntKind.i64.wrap (x51_22 + x8_20))] 0 σ

def l4_disk_Disk_Crash (B : World) (ro : AH) (a0 : Option Addr) (x13_3 : Sl) (Q : AH → Prop) : (Sl × Int) → AH → ((Sl × Int) → AH → Prop) → Prop := fun ⟨x1_5, x15_6⟩ σ Y4 =>
 if x15_6 < (x13_3.len : Int) then
  ∃ p17_9 : Addr, x13_3.a = some p17_9 ∧ (0 : Int) ≤ x15_6 ∧ x15_6 < (x13_3.len : Int) ∧
  ∃ (x18_10 : ByteArray), acell ro σ (p17_9.add (Int.toNat x15_6 * 1)) = some (.string x18_10) ∧
  ∃ p20_11 : Addr, a0 = some p20_11 ∧
  ∃ (x22_12 : Option Nat), acell ro σ p20_11 = some (.map x22_12) ∧
  awp Tryz.prog ro (Instr.lookup 37 (.map x22_12) (.string x18_10) false) (fun v σ =>
   (∃ (x24_13 : Option Addr), v = .pointer x24_13 ∧
    ∃ p26_14 : Addr, x24_13 = some p26_14 ∧
    ∃ p31_15 : Addr, x24_13 = some p31_15 ∧
    ∃ (x28_16 : Sl), acell ro σ p26_14 = some (Sl.v x28_16) ∧
    ∃ (x33_17 : Int), acell ro σ (p31_15.add 1) = some (.int .i64 x33_17) ∧
    if (IntKind.i64.wrap ((x28_16.len : Int) - x33_17)) = 0 then
     j7_disk_Disk_Crash B ro a0 x13_3 x15_6 Q Y4 x1_5 σ
    else
    if 0 < (x1_5.len : Int) then
     ∃ p41_31 : Addr, x1_5.a = some p41_31 ∧ (0 : Int) ≤ 0 ∧ 0 < (x1_5.len : Int) ∧
     cutOk (some 1) none x1_5.len x1_5.cap ∧
     ∃ (x42_32 : Int), acell ro σ (p41_31.add (Int.toNat 0 * 1)) = some (.int .i64 x42_32) ∧
     j18_disk_Disk_Crash B ro a0 x13_3 x15_6 x24_13 Q Y4 (⟨cutA x1_5.a (Int.toNat 1) x1_5.cap 1, x1_5.len - Int.toNat 1, x1_5.cap - Int.toNat 1⟩ : Sl) (if IntKind.i64.wrap ((x28_16.len : Int) - x33_17) < (if x42_32 < 0 then 0 else x42_32) then IntKind.i64.wrap ((x28_16.len : Int) - x33_17) else (if x42_32 < 0 then 0 else x42_32)) σ
    else
    j18_disk_Disk_Crash B ro a0 x13_3 x15_6 x24_13 Q Y4 x1_5 0 σ)) σ
 else
 Q σ

def f_disk_Disk_Crash (B : World) (ro : AH) (a0 : Option Addr) (a1 : Sl) (σ : AH) (Q : AH → Prop) : Prop :=
 ∃ p10_1 : Addr, a0 = some p10_1 ∧
 ∃ (x12_2 : Option Nat), acell ro σ p10_1 = some (.map x12_2) ∧
 c_disk_table_Files B ro x12_2 σ fun x13_3 σ =>
 lfpD (l4_disk_Disk_Crash B ro a0 x13_3 Q ) (a1, 0) σ

set_option maxRecDepth 100000 in
set_option maxHeartbeats 4000000 in
theorem disk_Disk_Crash_ok {B : World} {ro : AH} {a0 : Option Addr} {a1 : Sl} {σ : AH} {Q : AH → Prop} (h : Sep ro σ → f_disk_Disk_Crash B ro a0 a1 σ Q) : c_disk_Disk_Crash B ro a0 a1 σ Q := by
  refine ACalls.of_sep fun hsep => ?_
  replace h := h hsep
  refine ACalls.of_body (args := [.pointer a0, Sl.v a1]) Tryz.func15 rfl (by rw [Tryz.ntmps15]; simp) ?_
  rw [Tryz.ntmps15]
  unfold f_disk_Disk_Crash at h
  refine AW.seq ?_
  refine AW.reg ?_
  refine Lp (V_move rfl rfl) rfl rfl ?_
  obtain ⟨p10_1, hc, h⟩ := h
  refine Lp (V_nil rfl (by rw [← hc]; rfl)) rfl rfl ?_
  refine Lp (V_fld rfl Tryz.underlying39 rfl ty37 (by decide) rfl) rfl rfl ?_
  obtain ⟨x12_2, hc, h⟩ := h
  refine Ls rfl rfl (X_ld rfl Tryz.underlying37 rfl rfl hc ?_)
  refine Ls rfl rfl (X_call rfl Tryz.func46 rfl rfl rfl (ACalls.mono h ?_))
  rintro v σ ⟨x13_3, rfl, h⟩
  refine Lp (V_lenL rfl rfl Tryz.underlying83 rfl rfl) rfl rfl ?_
  refine Lp (V_move rfl rfl) rfl rfl ?_
  refine Lnil ?_
  refine thenN ?_
  refine AW.block ?_
  refine ARound.loop (fr' := [(0, .pointer a0), (13, Sl.v x13_3), (14, .int .i64 (x13_3.len : Int)), (1, Sl.v a1), (15, .int .i64 0)]) ?_ (FrLe.cons rfl (FrLe.cons rfl (FrLe.cons rfl (FrLe.cons rfl (FrLe.cons rfl (FrLe.nil _))))))
  refine h (fun ⟨x1_5, x15_6⟩ σ => ARound _ _ _ _ _ _ [(0, .pointer a0), (13, Sl.v x13_3), (14, .int .i64 (x13_3.len : Int)), (1, Sl.v x1_5), (15, .int .i64 x15_6)] σ) ?_
  rintro ⟨x1_5, x15_6⟩ σ Y4 hY4 h
  show AW _ _ _ _ _ _ _ _
  unfold l4_disk_Disk_Crash at h
  dsimp only at h
  refine AW.seq ?_
  refine AW.reg ?_
  refine Lp (V_lss rfl rfl rfl) rfl rfl ?_
  refine Lnil ?_
  refine thenN ?_
  refine AW.seq ?_
  refine AW.iff rfl decide_eq_true_iff h (fun h => ?_) (fun h => ?_)
  rotate_left
  · refine AW.exit ?_
    refine thenE ?_
    refine thenE ?_
    refine blockE ?_
    exact bN0 Tryz.results15 ⟨rfl, h⟩
  refine AW.skip ?_
  refine thenN ?_
  refine AW.seqJ (fun fr σ => ∃ (x1_8 : Sl), FrLe [(0, .pointer a0), (13, Sl.v x13_3), (14, .int .i64 (x13_3.len : Int)), (15, .int .i64 x15_6), (1, Sl.v x1_8)] fr ∧ j7_disk_Disk_Crash B ro a0 x13_3 x15_6 Q Y4 x1_8 σ) ?_ ?_
  · rintro fr σ ⟨x1_8, hl, h⟩
    refine AW.weaken ?_ hl (HLe.refl _)
    unfold j7_disk_Disk_Crash at h
    refine AW.reg ?_
    refine Lp (V_add rfl rfl rfl) rfl rfl ?_
    refine Lp (V_move rfl rfl) rfl rfl ?_
    refine Lnil ?_
    refine thenN ?_
    refine ARound.head (fr' := [(0, .pointer a0), (13, Sl.v x13_3), (14, .int .i64 (x13_3.len : Int)), (1, Sl.v x1_8), (15, .int .i64 (IntKind.i64.wrap (x15_6 + 1)))]) ?_ (FrLe.cons rfl (FrLe.cons rfl (FrLe.cons rfl (FrLe.cons rfl (FrLe.cons rfl (FrLe.nil _))))))
    exact hY4 _ _ h
  refine AW.block ?_
  refine AW.seq ?_
  refine AW.reg ?_
  obtain ⟨p17_9, ha, h0, h1, h⟩ := h
  refine Lp (V_ixA rfl Tryz.underlying83 ty9 (ixL rfl ha) rfl h0 h1) rfl rfl ?_
  obtain ⟨x18_10, hc, h⟩ := h
  refine Ls rfl rfl (X_ld rfl Tryz.underlying9 rfl rfl hc ?_)
  refine Lp (V_asg rfl rfl) rfl rfl ?_
  refine Lnil ?_
  refine thenN ?_
  refine AW.seq ?_
  refine AW.reg ?_
  refine Lp (V_move rfl rfl) rfl rfl ?_
  obtain ⟨p20_11, hc, h⟩ := h
  refine Lp (V_nil rfl (by rw [← hc]; rfl)) rfl rfl ?_
  refine Lp (V_fld rfl Tryz.underlying39 rfl ty37 (by decide) rfl) rfl rfl ?_
  obtain ⟨x22_12, hc, h⟩ := h
  refine Ls rfl rfl (X_ld rfl Tryz.underlying37 rfl rfl hc ?_)
  refine Lp (V_move rfl rfl) rfl rfl ?_
  refine Ls rfl rfl (X_lkp rfl rfl rfl (awp_mono _ h ?_))
  rintro v σ ⟨x24_13, rfl, h⟩
  refine Lp (V_asg rfl rfl) rfl rfl ?_
  refine Lnil ?_
  refine thenN ?_
  refine AW.seq ?_
  refine AW.drawn0 (fun i => ([0, 0, 0, 3, 0, 0, 0, 0, 3, 0, 0] : List Nat).getD i 2) [] [0, 1, 2, 5, 6, 7, 3, 4, 8, 9, 10] Tryz.mixed (by decide +kernel) ?_
  refine Dp rfl rfl rfl rfl (V_move rfl rfl) ?_
  obtain ⟨p26_14, hc, h⟩ := h
  refine Dp rfl rfl rfl rfl (V_nil rfl (by rw [← hc]; rfl)) ?_
  refine Dp rfl rfl rfl rfl (V_fld rfl Tryz.underlying104 rfl ty22 (by decide) rfl) ?_
  refine Dp rfl rfl rfl rfl (V_move rfl rfl) ?_
  obtain ⟨p31_15, hc, h⟩ := h
  refine Dp rfl rfl rfl rfl (V_nil rfl (by rw [← hc]; rfl)) ?_
  refine Dp rfl rfl rfl rfl (V_fld rfl Tryz.underlying104 rfl ty3 (by decide) rfl) ?_
  obtain ⟨x28_16, hc, h⟩ := h
  refine Dr rfl rfl rfl rfl (R_ld rfl Tryz.underlying22 rfl rfl hc) ?_
  refine Dp rfl rfl rfl rfl (V_lenL rfl rfl Tryz.underlying22 rfl rfl) ?_
  obtain ⟨x33_17, hc, h⟩ := h
  refine Dr rfl rfl rfl rfl (R_ld rfl Tryz.underlying3 rfl rfl hc) ?_
  refine Dp rfl rfl rfl rfl (V_sub rfl rfl rfl) ?_
  refine Dp rfl rfl rfl rfl (V_asg rfl rfl) ?_
  refine Dend ?_
  refine thenN ?_
  refine AW.seq ?_
  refine AW.seq ?_
  refine AW.reg ?_
  refine Lp (V_move rfl rfl) rfl rfl ?_
  refine Lp (V_eql rfl rfl rfl) rfl rfl ?_
  refine Lnil ?_
  refine thenN ?_
  refine AW.iff rfl decide_eq_true_iff h (fun h => ?_) (fun h => ?_)
  · refine AW.exit ?_
    refine thenE ?_
    refine blockE ?_
    refine thenN ?_
    exact ⟨_, (FrLe.cons rfl (FrLe.cons rfl (FrLe.cons rfl (FrLe.cons rfl (FrLe.cons rfl (FrLe.nil _)))))), h⟩
  refine AW.skip ?_
  refine thenN ?_
  refine AW.seq ?_
  refine AW.reg ?_
  refine Lp (V_asg rfl rfl) rfl rfl ?_
  refine Lnil ?_
  refine thenN ?_
  refine AW.seqJ (fun fr σ => ∃ (x1_19 : Sl) (x8_20 : Int), FrLe [(0, .pointer a0), (6, .pointer x24_13), (13, Sl.v x13_3), (14, .int .i64 (x13_3.len : Int)), (15, .int .i64 x15_6), (1, Sl.v x1_19), (8, .int .i64 x8_20)] fr ∧ j18_disk_Disk_Crash B ro a0 x13_3 x15_6 x24_13 Q Y4 x1_19 x8_20 σ) ?_ ?_
  rotate_left
  · refine AW.seq ?_
    refine AW.reg ?_
    refine Lp (V_move rfl rfl) rfl rfl ?_
    refine Lp (V_lenL rfl rfl Tryz.underlying23 rfl rfl) rfl rfl ?_
    refine Lp (V_gtr rfl rfl rfl) rfl rfl ?_
    refine Lnil ?_
    refine thenN ?_
    refine AW.iff rfl decide_eq_true_iff h (fun h => ?_) (fun h => ?_)
    rotate_left
    · refine AW.skip ?_
      refine thenN ?_
      exact ⟨_, _, (FrLe.cons rfl (FrLe.cons rfl (FrLe.cons rfl (FrLe.cons rfl (FrLe.cons rfl (FrLe.cons rfl (FrLe.cons rfl (FrLe.nil _)))))))), h⟩
    refine AW.drawn0 (fun i => ([0, 0, 3, 0, 0, 0, 0, 0, 0, 0] : List Nat).getD i 2) [] [0, 1, 4, 6, 7, 2, 3, 5, 8, 9] Tryz.mixed (by decide +kernel) ?_
    refine Dp rfl rfl rfl rfl (V_move rfl rfl) ?_
    obtain ⟨p41_31, ha, h0, h1, h⟩ := h
    refine Dp rfl rfl rfl rfl (V_ixA rfl Tryz.underlying23 ty3 (ixL rfl ha) rfl h0 h1) ?_
    refine Dp rfl rfl rfl rfl (V_move rfl rfl) ?_
    refine Dp rfl rfl rfl rfl (V_move rfl rfl) ?_
    obtain ⟨hc, h⟩ := h
    refine Dp rfl rfl rfl rfl (V_slL (lo := (some 1)) (hi := none) rfl Tryz.underlying23 ty3 rfl (optI_some rfl) optI_none hc) ?_
    obtain ⟨x42_32, hc, h⟩ := h
    refine Dr rfl rfl rfl rfl (R_ld rfl Tryz.underlying3 rfl rfl hc) ?_
    refine Dp rfl rfl rfl rfl (V_max2 rfl rfl) ?_
    refine Dp rfl rfl rfl rfl (V_min2 rfl rfl) ?_
    refine Dp rfl rfl rfl rfl (V_asg rfl rfl) ?_
    refine Dp rfl rfl rfl rfl (V_asg rfl rfl) ?_
    refine Dend ?_
    refine thenN ?_
    exact ⟨_, _, (FrLe.cons rfl (FrLe.cons rfl (FrLe.cons rfl (FrLe.cons rfl (FrLe.cons rfl (FrLe.cons rfl (FrLe.cons rfl (FrLe.nil _)))))))), h⟩
  rintro fr σ ⟨x1_19, x8_20, hl, h⟩
  refine AW.weaken ?_ hl (HLe.refl _)
  unfold j18_disk_Disk_Crash at h
  refine AW.seq ?_
  refine AW.reg ?_
  refine Lp (V_move rfl rfl) rfl rfl ?_
  obtain ⟨p49_21, hc, h⟩ := h
  refine Lp (V_nil rfl (by rw [← hc]; rfl)) rfl rfl ?_
  refine Lp (V_fld rfl Tryz.underlying104 rfl ty3 (by decide) rfl) rfl rfl ?_
  obtain ⟨x51_22, hc, h⟩ := h
  refine Ls rfl rfl (X_ld rfl Tryz.underlying3 rfl rfl hc ?_)
  refine Lp (V_move rfl rfl) rfl rfl ?_
  refine Lp (V_add rfl rfl rfl) rfl rfl ?_
  obtain ⟨p54_23, hc, h⟩ := h
  refine Lp (V_nil rfl (by rw [← hc]; rfl)) rfl rfl ?_
  refine Lp (V_fld rfl Tryz.underlying104 rfl ty3 (by decide) rfl) rfl rfl ?_
  refine Ls rfl rfl (X_st rfl ty3 rfl rfl rfl rfl (stN_mono h fun σ h => ?_))
  refine Lnil ?_
  refine thenN ?_
  refine AW.drawn0 (fun i => ([0, 0, 0, 0, 3, 0, 0, 0, 3, 0, 0, 0, 3, 0, 0, 0, 2] : List Nat).getD i 2) [] [0, 1, 2, 3, 5, 6, 7, 9, 10, 11, 4, 8, 12, 13, 14, 15, 16] Tryz.mixed (by decide +kernel) ?_
  refine Dp rfl rfl rfl rfl (V_move rfl rfl) ?_
  refine Dp rfl rfl rfl rfl (V_move rfl rfl) ?_
  obtain ⟨p58_24, hc, h⟩ := h
  refine Dp rfl rfl rfl rfl (V_nil rfl (by rw [← hc]; rfl)) ?_
  refine Dp rfl rfl rfl rfl (V_fld rfl Tryz.underlying104 rfl ty22 (by decide) rfl) ?_
  refine Dp rfl rfl rfl rfl (V_move rfl rfl) ?_
  obtain ⟨p62_25, hc, h⟩ := h
  refine Dp rfl rfl rfl rfl (V_nil rfl (by rw [← hc]; rfl)) ?_
  refine Dp rfl rfl rfl rfl (V_fld rfl Tryz.underlying104 rfl ty3 (by decide) rfl) ?_
  refine Dp rfl rfl rfl rfl (V_move rfl rfl) ?_
  obtain ⟨p66_26, hc, h⟩ := h
  refine Dp rfl rfl rfl rfl (V_nil rfl (by rw [← hc]; rfl)) ?_
  refine Dp rfl rfl rfl rfl (V_fld rfl Tryz.underlying104 rfl ty3 (by decide) rfl) ?_
  obtain ⟨x60_27, hc, h⟩ := h
  refine Dr rfl rfl rfl rfl (R_ld rfl Tryz.underlying22 rfl rfl hc) ?_
  obtain ⟨x64_28, hc, h⟩ := h
  refine Dr rfl rfl rfl rfl (R_ld rfl Tryz.underlying3 rfl rfl hc) ?_
  obtain ⟨x68_29, hc, h⟩ := h
  refine Dr rfl rfl rfl rfl (R_ld rfl Tryz.underlying3 rfl rfl hc) ?_
  obtain ⟨hc, h⟩ := h
  refine Dp rfl rfl rfl rfl (V_slL3 (lo := none) rfl Tryz.underlying22 ty5 rfl optI_none rfl rfl hc) ?_
  obtain ⟨p70_30, hc, h⟩ := h
  refine Dp rfl rfl rfl rfl (V_nil rfl (by rw [← hc]; rfl)) ?_
  refine Dp rfl rfl rfl rfl (V_fld rfl Tryz.underlying104 rfl ty22 (by decide) rfl) ?_
  refine Dg rfl rfl rfl rfl (X_st rfl ty22 rfl rfl rfl rfl (stN_mono h fun σ h => ?_))
  refine Dend ?_
  refine blockN ?_
  refine thenN ?_
  exact ⟨_, (FrLe.cons rfl (FrLe.cons rfl (FrLe.cons rfl (FrLe.cons rfl (FrLe.cons rfl (FrLe.nil _)))))), h⟩

def j5_disk_Disk_Remove (B : World) (ro : AH) (Q : Int → AH → Prop) (σ : AH) : Prop :=
 Q 0 σ

def l6_disk_Disk_Remove (B : World) (ro : AH) (a0 : Option Addr) (a1 : Sl) (Q : Int → AH → Prop) : (Int) → AH → ((Int) → AH → Prop) → Prop := fun x23_7 σ Y6 =>
 if x23_7 < (a1.len : Int) then
  ∃ p25_8 : Addr, a1.a = some p25_8 ∧ (0 : Int) ≤ x23_7 ∧ x23_7 < (a1.len : Int) ∧
  ∃ (x26_9 : ByteArray), acell ro σ (p25_8.add (Int.toNat x23_7 * 1)) = some (.string x26_9) ∧
  ∃ p28_10 : Addr, a0 = some p28_10 ∧
  ∃ (x30_11 : Option Nat), acell ro σ p28_10 = some (.map x30_11) ∧
  awp Tryz.prog ro (Builtin.delete_ #[37, 9] 0 #[.map x30_11, .string x26_9]) (fun v σ => v = .tuple #[] ∧
   Y6 (IntKind.i64.wrap (x23_7 + 1)) σ) σ
 else
 j5_disk_Disk_Remove B ro Q σ

def f_disk_Disk_Remove (B : World) (ro : AH) (a0 : Option Addr) (a1 : Sl) (σ : AH) (Q : Int → AH → Prop) : Prop :=
 ∃ p11_1 : Addr, a0 = some p11_1 ∧
 ∃ (x13_2 : Option Nat), acell ro σ p11_1 = some (.map x13_2) ∧
 c_disk_table_find B ro x13_2 a1 σ fun x15_3 x15_4 σ =>
 if ¬ (x15_4 = 0) then
  Q x15_4 σ
 else
 lfpD (l6_disk_Disk_Remove B ro a0 a1 Q ) (0) σ

set_option maxRecDepth 100000 in
set_option maxHeartbeats 4000000 in
theorem disk_Disk_Remove_ok {B : World} {ro : AH} {a0 : Option Addr} {a1 : Sl} {σ : AH} {Q : Int → AH → Prop} (h : Sep ro σ → f_disk_Disk_Remove B ro a0 a1 σ Q) : c_disk_Disk_Remove B ro a0 a1 σ Q := by
  refine ACalls.of_sep fun hsep => ?_
  replace h := h hsep
  refine ACalls.of_body (args := [.pointer a0, Sl.v a1]) Tryz.func40 rfl (by rw [Tryz.ntmps40]; simp) ?_
  rw [Tryz.ntmps40]
  unfold f_disk_Disk_Remove at h
  refine AW.seq ?_
  refine AW.reg ?_
  refine Lp (V_asg rfl rfl) rfl rfl ?_
  refine Lnil ?_
  refine thenN ?_
  refine AW.seq ?_
  refine AW.seq ?_
  refine AW.reg ?_
  refine Lp (V_move rfl rfl) rfl rfl ?_
  obtain ⟨p11_1, hc, h⟩ := h
  refine Lp (V_nil rfl (by rw [← hc]; rfl)) rfl rfl ?_
  refine Lp (V_fld rfl Tryz.underlying39 rfl ty37 (by decide) rfl) rfl rfl ?_
  obtain ⟨x13_2, hc, h⟩ := h
  refine Ls rfl rfl (X_ld rfl Tryz.underlying37 rfl rfl hc ?_)
  refine Lp (V_move rfl rfl) rfl rfl ?_
  refine Ls rfl rfl (X_call rfl Tryz.func76 rfl rfl rfl (ACalls.mono h ?_))
  rintro v σ ⟨x15_3, x15_4, rfl, h⟩
  refine Lp (V_move rfl rfl) rfl rfl ?_
  refine Lp (V_ext rfl rfl rfl) rfl rfl ?_
  refine Lp (V_ext rfl rfl rfl) rfl rfl ?_
  refine Lp (V_asg rfl rfl) rfl rfl ?_
  refine Lp (V_asg rfl rfl) rfl rfl ?_
  refine Lnil ?_
  refine thenN ?_
  refine AW.seq ?_
  refine AW.reg ?_
  refine Lp (V_move rfl rfl) rfl rfl ?_
  refine Lp (V_neq rfl rfl rfl) rfl rfl ?_
  refine Lnil ?_
  refine thenN ?_
  refine AW.iff rfl (bnot_iff decide_eq_true_iff) h (fun h => ?_) (fun h => ?_)
  · refine AW.seq ?_
    refine AW.reg ?_
    refine Lp (V_move rfl rfl) rfl rfl ?_
    refine Lp (V_asg rfl rfl) rfl rfl ?_
    refine Lnil ?_
    refine thenN ?_
    refine AW.ret ?_
    refine thenR ?_
    exact bR1 Tryz.results40 rfl ⟨_, rfl, h⟩
  refine AW.skip ?_
  refine thenN ?_
  refine AW.seqJ (fun fr σ => FrLe [] fr ∧ j5_disk_Disk_Remove B ro Q σ) ?_ ?_
  · rintro fr σ ⟨hl, h⟩
    refine AW.weaken ?_ hl (HLe.refl _)
    unfold j5_disk_Disk_Remove at h
    refine AW.seq ?_
    refine AW.reg ?_
    refine Lp (V_asg rfl rfl) rfl rfl ?_
    refine Lnil ?_
    refine thenN ?_
    refine AW.ret ?_
    exact bR1 Tryz.results40 rfl ⟨_, rfl, h⟩
  refine AW.seq ?_
  refine AW.reg ?_
  refine Lp (V_move rfl rfl) rfl rfl ?_
  refine Lp (V_lenL rfl rfl Tryz.underlying83 rfl rfl) rfl rfl ?_
  refine Lp (V_move rfl rfl) rfl rfl ?_
  refine Lnil ?_
  refine thenN ?_
  refine AW.block ?_
  refine ARound.loop (fr' := [(0, .pointer a0), (21, Sl.v a1), (22, .int .i64 (a1.len : Int)), (23, .int .i64 0)]) ?_ (FrLe.cons rfl (FrLe.cons rfl (FrLe.cons rfl (FrLe.cons rfl (FrLe.nil _)))))
  refine h (fun x23_7 σ => ARound _ _ _ _ _ _ [(0, .pointer a0), (21, Sl.v a1), (22, .int .i64 (a1.len : Int)), (23, .int .i64 x23_7)] σ) ?_
  rintro x23_7 σ Y6 hY6 h
  show AW _ _ _ _ _ _ _ _
  unfold l6_disk_Disk_Remove at h
  refine AW.seq ?_
  refine AW.reg ?_
  refine Lp (V_lss rfl rfl rfl) rfl rfl ?_
  refine Lnil ?_
  refine thenN ?_
  refine AW.seq ?_
  refine AW.iff rfl decide_eq_true_iff h (fun h => ?_) (fun h => ?_)
  rotate_left
  · refine AW.exit ?_
    refine thenE ?_
    refine thenE ?_
    refine blockE ?_
    refine thenN ?_
    exact ⟨(FrLe.nil _), h⟩
  refine AW.skip ?_
  refine thenN ?_
  refine AW.seq ?_
  refine AW.block ?_
  refine AW.seq ?_
  refine AW.reg ?_
  obtain ⟨p25_8, ha, h0, h1, h⟩ := h
  refine Lp (V_ixA rfl Tryz.underlying83 ty9 (ixL rfl ha) rfl h0 h1) rfl rfl ?_
  obtain ⟨x26_9, hc, h⟩ := h
  refine Ls rfl rfl (X_ld rfl Tryz.underlying9 rfl rfl hc ?_)
  refine Lp (V_asg rfl rfl) rfl rfl ?_
  refine Lnil ?_
  refine thenN ?_
  refine AW.reg ?_
  refine Lp (V_move rfl rfl) rfl rfl ?_
  obtain ⟨p28_10, hc, h⟩ := h
  refine Lp (V_nil rfl (by rw [← hc]; rfl)) rfl rfl ?_
  refine Lp (V_fld rfl Tryz.underlying39 rfl ty37 (by decide) rfl) rfl rfl ?_
  obtain ⟨x30_11, hc, h⟩ := h
  refine Ls rfl rfl (X_ld rfl Tryz.underlying37 rfl rfl hc ?_)
  refine Lp (V_move rfl rfl) rfl rfl ?_
  refine Ls rfl rfl (X_bi (s := Builtin.delete_ #[37, 9] 0 #[.map x30_11, .string x26_9]) rfl rfl (fun _ => rfl) (awp_mono _ h ?_))
  rintro v σ ⟨rfl, h⟩
  refine Lnil ?_
  refine blockN ?_
  refine thenN ?_
  refine AW.reg ?_
  refine Lp (V_add rfl rfl rfl) rfl rfl ?_
  refine Lp (V_move rfl rfl) rfl rfl ?_
  refine Lnil ?_
  refine thenN ?_
  refine ARound.head (fr' := [(0, .pointer a0), (21, Sl.v a1), (22, .int .i64 (a1.len : Int)), (23, .int .i64 (IntKind.i64.wrap (x23_7 + 1)))]) ?_ (FrLe.cons rfl (FrLe.cons rfl (FrLe.cons rfl (FrLe.cons rfl (FrLe.nil _)))))
  exact hY6 _ _ h

def j10_disk_Disk_Append (B : World) (ro : AH) (a2 : Sl) (Q : Int → AH → Prop) (x7_11 : Option Addr) (σ : AH) : Prop :=
 ∃ p44_12 : Addr, x7_11 = some p44_12 ∧
 ∃ (x46_13 : Sl), acell ro σ p44_12 = some (Sl.v x46_13) ∧
 awp Tryz.prog ro (Builtin.append_ #[22, 22] 22 #[Sl.v x46_13, Sl.v a2]) (fun v σ => ∃ (x48_14 : Sl), v = Sl.v x48_14 ∧
  ∃ p49_15 : Addr, x7_11 = some p49_15 ∧
  stN p49_15 (fun σ =>
   Q 0 σ) [Sl.v x48_14] 0 σ) σ

def f_disk_Disk_Append (B : World) (ro : AH) (a0 : Option Addr) (a1 : ByteArray) (a2 : Sl) (σ : AH) (Q : Int → AH → Prop) : Prop :=
 c_disk_rightName B ro a1 σ fun x10_1 σ =>
 if ¬ (x10_1 = true) then
  Q 30 σ
 else
 lent σ fun ψ σ =>
  ∃ p16_2 : Addr, a0 = some p16_2 ∧
  ∃ (x18_3 : Int), acell (join ro ψ) (fun _ => none) (p16_2.add 1) = some (.int .i64 x18_3) ∧
  ∃ p20_4 : Addr, a0 = some p20_4 ∧
  ∃ (x22_5 : Option Nat), acell (join ro ψ) σ p20_4 = some (.map x22_5) ∧
  c_disk_table_Used B (join ro ψ) x22_5 σ fun x23_6 σ =>
  (Disj ψ σ → (fun σ => 
   if (IntKind.i64.wrap (x18_3 - x23_6)) < (a2.len : Int) then
    Q 32 σ
   else
   ∃ p27_7 : Addr, a0 = some p27_7 ∧
   ∃ (x29_8 : Option Nat), acell ro σ p27_7 = some (.map x29_8) ∧
   awp Tryz.prog ro (Instr.lookup 37 (.map x29_8) (.string a1) false) (fun v σ =>
    (∃ (x31_9 : Option Addr), v = .pointer x31_9 ∧
     if x31_9 = none then
      nw ro σ (.cells #[Sl.v (⟨none, 0, 0⟩ : Sl), .int .i64 0] 104) fun x35_16 σ =>
      ∃ p37_17 : Addr, a0 = some p37_17 ∧
      ∃ (x39_18 : Option Nat), acell ro σ p37_17 = some (.map x39_18) ∧
      awp Tryz.prog ro (Instr.mapUpdate 37 (.map x39_18) (.string a1) (.pointer (some ⟨x35_16, 0, none⟩))) (fun _ σ =>
       j10_disk_Disk_Append B ro a2 Q (some ⟨x35_16, 0, none⟩) σ) σ
     else
     j10_disk_Disk_Append B ro a2 Q x31_9 σ)) σ) (join ψ σ))

set_option maxRecDepth 100000 in
set_option maxHeartbeats 4000000 in
theorem disk_Disk_Append_ok {B : World} {ro : AH} {a0 : Option Addr} {a1 : ByteArray} {a2 : Sl} {σ : AH} {Q : Int → AH → Prop} (h : Sep ro σ → f_disk_Disk_Append B ro a0 a1 a2 σ Q) : c_disk_Disk_Append B ro a0 a1 a2 σ Q := by
  refine ACalls.of_sep fun hsep => ?_
  replace h := h hsep
  refine ACalls.of_body (args := [.pointer a0, .string a1, Sl.v a2]) Tryz.func43 rfl (by rw [Tryz.ntmps43]; simp) ?_
  rw [Tryz.ntmps43]
  unfold f_disk_Disk_Append at h
  refine AW.seq ?_
  refine AW.reg ?_
  refine Lp (V_asg rfl rfl) rfl rfl ?_
  refine Lnil ?_
  refine thenN ?_
  refine AW.seq ?_
  refine AW.block ?_
  refine AW.seq ?_
  refine AW.reg ?_
  refine Lp (V_move rfl rfl) rfl rfl ?_
  refine Ls rfl rfl (X_call rfl Tryz.func80 rfl rfl rfl (ACalls.mono h ?_))
  rintro v σ ⟨x10_1, rfl, h⟩
  refine Lp (V_not rfl rfl) rfl rfl ?_
  refine Lp (V_asg rfl rfl) rfl rfl ?_
  refine Lnil ?_
  refine thenN ?_
  refine AW.iff rfl (bnot_iff Iff.rfl) h (fun h => ?_) (fun h => ?_)
  · refine AW.seq ?_
    refine AW.reg ?_
    refine Lp (V_asg rfl rfl) rfl rfl ?_
    refine Lnil ?_
    refine thenN ?_
    refine AW.ret ?_
    refine blockR ?_
    refine thenR ?_
    exact bR1 Tryz.results43 rfl ⟨_, rfl, h⟩
  refine AW.seq ?_
  refine AW.drawnL (fun i => ([0, 0, 0, 0, 0, 0, 0, 0, 0, 3, 2, 0, 0, 0] : List Nat).getD i 2) [] [0, 1, 2, 3, 4, 5, 6, 7, 8, 9, 10, 11, 12, 13] Tryz.mixed h (by decide +kernel) ?_
  clear h
  intro ψ σ h
  refine Dp rfl rfl rfl rfl (V_move rfl rfl) ?_
  refine Dp rfl rfl rfl rfl (V_lenL rfl rfl Tryz.underlying22 rfl rfl) ?_
  refine Dp rfl rfl rfl rfl (V_move rfl rfl) ?_
  obtain ⟨p16_2, hc, h⟩ := h
  refine Dp rfl rfl rfl rfl (V_nil rfl (by rw [← hc]; rfl)) ?_
  refine Dp rfl rfl rfl rfl (V_fld rfl Tryz.underlying39 rfl ty3 (by decide) rfl) ?_
  obtain ⟨x18_3, hc, h⟩ := h
  refine Dp rfl rfl rfl rfl (V_ld rfl Tryz.underlying3 rfl rfl hc) ?_
  refine Dp rfl rfl rfl rfl (V_move rfl rfl) ?_
  obtain ⟨p20_4, hc, h⟩ := h
  refine Dp rfl rfl rfl rfl (V_nil rfl (by rw [← hc]; rfl)) ?_
  refine Dp rfl rfl rfl rfl (V_fld rfl Tryz.underlying39 rfl ty37 (by decide) rfl) ?_
  obtain ⟨x22_5, hc, h⟩ := h
  refine Dr rfl rfl rfl rfl (R_ld rfl Tryz.underlying37 rfl rfl hc) ?_
  refine Dg rfl rfl rfl rfl (X_call rfl Tryz.func14 rfl rfl rfl (ACalls.mono h ?_))
  rintro v σ ⟨x23_6, rfl, h⟩
  refine Dp rfl rfl rfl rfl (V_sub rfl rfl rfl) ?_
  refine Dp rfl rfl rfl rfl (V_gtr rfl rfl rfl) ?_
  refine Dp rfl rfl rfl rfl (V_asg rfl rfl) ?_
  refine ⟨_, FrEq.refl _, fun hdj => ?_⟩
  replace h := h hdj
  refine thenN ?_
  refine AW.iff rfl decide_eq_true_iff h (fun h => ?_) (fun h => ?_)
  · refine AW.seq ?_
    refine AW.reg ?_
    refine Lp (V_asg rfl rfl) rfl rfl ?_
    refine Lnil ?_
    refine thenN ?_
    refine AW.ret ?_
    refine blockR ?_
    refine thenR ?_
    exact bR1 Tryz.results43 rfl ⟨_, rfl, h⟩
  refine AW.skip ?_
  refine blockN ?_
  refine thenN ?_
  refine AW.seq ?_
  refine AW.reg ?_
  refine Lp (V_move rfl rfl) rfl rfl ?_
  obtain ⟨p27_7, hc, h⟩ := h
  refine Lp (V_nil rfl (by rw [← hc]; rfl)) rfl rfl ?_
  refine Lp (V_fld rfl Tryz.underlying39 rfl ty37 (by decide) rfl) rfl rfl ?_
  obtain ⟨x29_8, hc, h⟩ := h
  refine Ls rfl rfl (X_ld rfl Tryz.underlying37 rfl rfl hc ?_)
  refine Lp (V_move rfl rfl) rfl rfl ?_
  refine Ls rfl rfl (X_lkp rfl rfl rfl (awp_mono _ h ?_))
  rintro v σ ⟨x31_9, rfl, h⟩
  refine Lp (V_asg rfl rfl) rfl rfl ?_
  refine Lnil ?_
  refine thenN ?_
  refine AW.seqJ (fun fr σ => ∃ (x7_11 : Option Addr), FrLe [(2, Sl.v a2), (7, .pointer x7_11)] fr ∧ j10_disk_Disk_Append B ro a2 Q x7_11 σ) ?_ ?_
  · rintro fr σ ⟨x7_11, hl, h⟩
    refine AW.weaken ?_ hl (HLe.refl _)
    unfold j10_disk_Disk_Append at h
    refine AW.seq ?_
    refine AW.reg ?_
    refine Lp (V_move rfl rfl) rfl rfl ?_
    refine Lp (V_move rfl rfl) rfl rfl ?_
    obtain ⟨p44_12, hc, h⟩ := h
    refine Lp (V_nil rfl (by rw [← hc]; rfl)) rfl rfl ?_
    refine Lp (V_fld rfl Tryz.underlying104 rfl ty22 (by decide) rfl) rfl rfl ?_
    obtain ⟨x46_13, hc, h⟩ := h
    refine Ls rfl rfl (X_ld rfl Tryz.underlying22 rfl rfl hc ?_)
    refine Lp (V_move rfl rfl) rfl rfl ?_
    refine Ls rfl rfl (X_bi (s := Builtin.append_ #[22, 22] 22 #[Sl.v x46_13, Sl.v a2]) rfl rfl (fun _ => rfl) (awp_mono _ h ?_))
    rintro v σ ⟨x48_14, rfl, h⟩
    obtain ⟨p49_15, hc, h⟩ := h
    refine Lp (V_nil rfl (by rw [← hc]; rfl)) rfl rfl ?_
    refine Lp (V_fld rfl Tryz.underlying104 rfl ty22 (by decide) rfl) rfl rfl ?_
    refine Ls rfl rfl (X_st rfl ty22 rfl rfl rfl rfl (stN_mono h fun σ h => ?_))
    refine Lnil ?_
    refine thenN ?_
    refine AW.seq ?_
    refine AW.reg ?_
    refine Lp (V_asg rfl rfl) rfl rfl ?_
    refine Lnil ?_
    refine thenN ?_
    refine AW.ret ?_
    exact bR1 Tryz.results43 rfl ⟨_, rfl, h⟩
  refine AW.seq ?_
  refine AW.reg ?_
  refine Lp (V_move rfl rfl) rfl rfl ?_
  refine Lp (V_eqP rfl Tryz.underlying102 rfl rfl) rfl rfl ?_
  refine Lnil ?_
  refine thenN ?_
  refine AW.iff rfl isNone_iff h (fun h => ?_) (fun h => ?_)
  rotate_left
  · refine AW.skip ?_
    refine thenN ?_
    exact ⟨_, (FrLe.cons rfl (FrLe.cons rfl (FrLe.nil _))), h⟩
  refine AW.seq ?_
  refine AW.reg ?_
  refine Lp (V_bld (vs := []) (cs := #[Sl.v (⟨none, 0, 0⟩ : Sl), .int .i64 0]) rfl Tryz.underlying104 ty104 pl104 rfl rfl) rfl rfl ?_
  refine Ls rfl rfl (X_new (A_box rfl rfl) fun x35_16 g1 g2 => ?_)
  replace h := h x35_16 g1 g2
  refine Lp (V_asg rfl rfl) rfl rfl ?_
  refine Lnil ?_
  refine thenN ?_
  refine AW.reg ?_
  refine Lp (V_move rfl rfl) rfl rfl ?_
  obtain ⟨p37_17, hc, h⟩ := h
  refine Lp (V_nil rfl (by rw [← hc]; rfl)) rfl rfl ?_
  refine Lp (V_fld rfl Tryz.underlying39 rfl ty37 (by decide) rfl) rfl rfl ?_
  obtain ⟨x39_18, hc, h⟩ := h
  refine Ls rfl rfl (X_ld rfl Tryz.underlying37 rfl rfl hc ?_)
  refine Lp (V_move rfl rfl) rfl rfl ?_
  refine Lp (V_move rfl rfl) rfl rfl ?_
  refine Ls rfl rfl (X_mup (.inl rfl) rfl rfl rfl (awp_mono _ h ?_))
  rintro _ σ h
  refine Lnil ?_
  refine thenN ?_
  exact ⟨_, (FrLe.cons rfl (FrLe.cons rfl (FrLe.nil _))), h⟩

def j5_disk_Disk_Sync (B : World) (ro : AH) (x15_4 : Int) (Q : Int → AH → Prop) (σ : AH) : Prop :=
 Q x15_4 σ

def l6_disk_Disk_Sync (B : World) (ro : AH) (x15_3 : Sl) (x15_4 : Int) (Q : Int → AH → Prop) : (Int) → AH → ((Int) → AH → Prop) → Prop := fun x20_7 σ Y6 =>
 if x20_7 < (x15_3.len : Int) then
  ∃ p22_8 : Addr, x15_3.a = some p22_8 ∧ (0 : Int) ≤ x20_7 ∧ x20_7 < (x15_3.len : Int) ∧
  ∃ (x23_9 : Option Addr), acell ro σ (p22_8.add (Int.toNat x20_7 * 1)) = some (.pointer x23_9) ∧
  ∃ p26_10 : Addr, x23_9 = some p26_10 ∧
  ∃ (x28_11 : Sl), acell ro σ p26_10 = some (Sl.v x28_11) ∧
  ∃ p30_12 : Addr, x23_9 = some p30_12 ∧
  stN (p30_12.add 1) (fun σ =>
   Y6 (IntKind.i64.wrap (x20_7 + 1)) σ) [.int .i64 (x28_11.len : Int)] 0 σ
 else
 j5_disk_Disk_Sync B ro x15_4 Q σ

def f_disk_Disk_Sync (B : World) (ro : AH) (a0 : Option Addr) (a1 : Sl) (σ : AH) (Q : Int → AH → Prop) : Prop :=
 ∃ p11_1 : Addr, a0 = some p11_1 ∧
 ∃ (x13_2 : Option Nat), acell ro σ p11_1 = some (.map x13_2) ∧
 c_disk_table_find B ro x13_2 a1 σ fun x15_3 x15_4 σ =>
 lfpD (l6_disk_Disk_Sync B ro x15_3 x15_4 Q ) (0) σ

set_option maxRecDepth 100000 in
set_option maxHeartbeats 4000000 in
theorem disk_Disk_Sync_ok {B : World} {ro : AH} {a0 : Option Addr} {a1 : Sl} {σ : AH} {Q : Int → AH → Prop} (h : Sep ro σ → f_disk_Disk_Sync B ro a0 a1 σ Q) : c_disk_Disk_Sync B ro a0 a1 σ Q := by
  refine ACalls.of_sep fun hsep => ?_
  replace h := h hsep
  refine ACalls.of_body (args := [.pointer a0, Sl.v a1]) Tryz.func44 rfl (by rw [Tryz.ntmps44]; simp) ?_
  rw [Tryz.ntmps44]
  unfold f_disk_Disk_Sync at h
  refine AW.seq ?_
  refine AW.reg ?_
  refine Lp (V_asg rfl rfl) rfl rfl ?_
  refine Lnil ?_
  refine thenN ?_
  refine AW.seq ?_
  refine AW.reg ?_
  refine Lp (V_move rfl rfl) rfl rfl ?_
  obtain ⟨p11_1, hc, h⟩ := h
  refine Lp (V_nil rfl (by rw [← hc]; rfl)) rfl rfl ?_
  refine Lp (V_fld rfl Tryz.underlying39 rfl ty37 (by decide) rfl) rfl rfl ?_
  obtain ⟨x13_2, hc, h⟩ := h
  refine Ls rfl rfl (X_ld rfl Tryz.underlying37 rfl rfl hc ?_)
  refine Lp (V_move rfl rfl) rfl rfl ?_
  refine Ls rfl rfl (X_call rfl Tryz.func76 rfl rfl rfl (ACalls.mono h ?_))
  rintro v σ ⟨x15_3, x15_4, rfl, h⟩
  refine Lp (V_move rfl rfl) rfl rfl ?_
  refine Lp (V_ext rfl rfl rfl) rfl rfl ?_
  refine Lp (V_ext rfl rfl rfl) rfl rfl ?_
  refine Lp (V_asg rfl rfl) rfl rfl ?_
  refine Lp (V_asg rfl rfl) rfl rfl ?_
  refine Lnil ?_
  refine thenN ?_
  refine AW.seqJ (fun fr σ => FrLe [(6, .int .i64 x15_4)] fr ∧ j5_disk_Disk_Sync B ro x15_4 Q σ) ?_ ?_
  · rintro fr σ ⟨hl, h⟩
    refine AW.weaken ?_ hl (HLe.refl _)
    unfold j5_disk_Disk_Sync at h
    refine AW.seq ?_
    refine AW.reg ?_
    refine Lp (V_move rfl rfl) rfl rfl ?_
    refine Lp (V_asg rfl rfl) rfl rfl ?_
    refine Lnil ?_
    refine thenN ?_
    refine AW.ret ?_
    exact bR1 Tryz.results44 rfl ⟨_, rfl, h⟩
  refine AW.seq ?_
  refine AW.reg ?_
  refine Lp (V_move rfl rfl) rfl rfl ?_
  refine Lp (V_lenL rfl rfl Tryz.underlying140 rfl rfl) rfl rfl ?_
  refine Lp (V_move rfl rfl) rfl rfl ?_
  refine Lnil ?_
  refine thenN ?_
  refine AW.block ?_
  refine ARound.loop (fr' := [(6, .int .i64 x15_4), (18, Sl.v x15_3), (19, .int .i64 (x15_3.len : Int)), (20, .int .i64 0)]) ?_ (FrLe.cons rfl (FrLe.cons rfl (FrLe.cons rfl (FrLe.cons rfl (FrLe.nil _)))))
  refine h (fun x20_7 σ => ARound _ _ _ _ _ _ [(6, .int .i64 x15_4), (18, Sl.v x15_3), (19, .int .i64 (x15_3.len : Int)), (20, .int .i64 x20_7)] σ) ?_
  rintro x20_7 σ Y6 hY6 h
  show AW _ _ _ _ _ _ _ _
  unfold l6_disk_Disk_Sync at h
  refine AW.seq ?_
  refine AW.reg ?_
  refine Lp (V_lss rfl rfl rfl) rfl rfl ?_
  refine Lnil ?_
  refine thenN ?_
  refine AW.seq ?_
  refine AW.iff rfl decide_eq_true_iff h (fun h => ?_) (fun h => ?_)
  rotate_left
  · refine AW.exit ?_
    refine thenE ?_
    refine thenE ?_
    refine blockE ?_
    refine thenN ?_
    exact ⟨(FrLe.cons rfl (FrLe.nil _)), h⟩
  refine AW.skip ?_
  refine thenN ?_
  refine AW.seq ?_
  refine AW.block ?_
  refine AW.seq ?_
  refine AW.reg ?_
  obtain ⟨p22_8, ha, h0, h1, h⟩ := h
  refine Lp (V_ixA rfl Tryz.underlying140 ty102 (ixL rfl ha) rfl h0 h1) rfl rfl ?_
  obtain ⟨x23_9, hc, h⟩ := h
  refine Ls rfl rfl (X_ld rfl Tryz.underlying102 rfl rfl hc ?_)
  refine Lp (V_asg rfl rfl) rfl rfl ?_
  refine Lnil ?_
  refine thenN ?_
  refine AW.reg ?_
  refine Lp (V_move rfl rfl) rfl rfl ?_
  refine Lp (V_move rfl rfl) rfl rfl ?_
  obtain ⟨p26_10, hc, h⟩ := h
  refine Lp (V_nil rfl (by rw [← hc]; rfl)) rfl rfl ?_
  refine Lp (V_fld rfl Tryz.underlying104 rfl ty22 (by decide) rfl) rfl rfl ?_
  obtain ⟨x28_11, hc, h⟩ := h
  refine Ls rfl rfl (X_ld rfl Tryz.underlying22 rfl rfl hc ?_)
  refine Lp (V_lenL rfl rfl Tryz.underlying22 rfl rfl) rfl rfl ?_
  obtain ⟨p30_12, hc, h⟩ := h
  refine Lp (V_nil rfl (by rw [← hc]; rfl)) rfl rfl ?_
  refine Lp (V_fld rfl Tryz.underlying104 rfl ty3 (by decide) rfl) rfl rfl ?_
  refine Ls rfl rfl (X_st rfl ty3 rfl rfl rfl rfl (stN_mono h fun σ h => ?_))
  refine Lnil ?_
  refine blockN ?_
  refine thenN ?_
  refine AW.reg ?_
  refine Lp (V_add rfl rfl rfl) rfl rfl ?_
  refine Lp (V_move rfl rfl) rfl rfl ?_
  refine Lnil ?_
  refine thenN ?_
  refine ARound.head (fr' := [(6, .int .i64 x15_4), (18, Sl.v x15_3), (19, .int .i64 (x15_3.len : Int)), (20, .int .i64 (IntKind.i64.wrap (x20_7 + 1)))]) ?_ (FrLe.cons rfl (FrLe.cons rfl (FrLe.cons rfl (FrLe.cons rfl (FrLe.nil _)))))
  exact hY6 _ _ h

def j2_disk_Disk_Rename (B : World) (ro : AH) (a0 : Option Addr) (a1 : ByteArray) (a2 : ByteArray) (Q : Int → AH → Prop) (x15_3 : Bool) (σ : AH) : Prop :=
 if x15_3 = true then
  Q 30 σ
 else
 ∃ p17_4 : Addr, a0 = some p17_4 ∧
 ∃ (x19_5 : Option Nat), acell ro σ p17_4 = some (.map x19_5) ∧
 awp Tryz.prog ro (Instr.lookup 37 (.map x19_5) (.string a1) false) (fun v σ =>
  (∃ (x21_6 : Option Addr), v = .pointer x21_6 ∧
   if x21_6 = none then
    Q 31 σ
   else
   ∃ p25_7 : Addr, a0 = some p25_7 ∧
   ∃ (x27_8 : Option Nat), acell ro σ p25_7 = some (.map x27_8) ∧
   awp Tryz.prog ro (Builtin.delete_ #[37, 9] 0 #[.map x27_8, .string a1]) (fun v σ => v = .tuple #[] ∧
    ∃ p30_9 : Addr, a0 = some p30_9 ∧
    ∃ (x32_10 : Option Nat), acell ro σ p30_9 = some (.map x32_10) ∧
    awp Tryz.prog ro (Instr.mapUpdate 37 (.map x32_10) (.string a2) (.pointer x21_6)) (fun _ σ =>
     Q 0 σ) σ) σ)) σ

def f_disk_Disk_Rename (B : World) (ro : AH) (a0 : Option Addr) (a1 : ByteArray) (a2 : ByteArray) (σ : AH) (Q : Int → AH → Prop) : Prop :=
 c_disk_rightName B ro a1 σ fun x9_1 σ =>
 if ¬ (x9_1 = true) then
  j2_disk_Disk_Rename B ro a0 a1 a2 Q true σ
 else
 c_disk_rightName B ro a2 σ fun x13_11 σ =>
 j2_disk_Disk_Rename B ro a0 a1 a2 Q (!x13_11) σ

set_option maxRecDepth 100000 in
set_option maxHeartbeats 4000000 in
theorem disk_Disk_Rename_ok {B : World} {ro : AH} {a0 : Option Addr} {a1 : ByteArray} {a2 : ByteArray} {σ : AH} {Q : Int → AH → Prop} (h : Sep ro σ → f_disk_Disk_Rename B ro a0 a1 a2 σ Q) : c_disk_Disk_Rename B ro a0 a1 a2 σ Q := by
  refine ACalls.of_sep fun hsep => ?_
  replace h := h hsep
  refine ACalls.of_body (args := [.pointer a0, .string a1, .string a2]) Tryz.func45 rfl (by rw [Tryz.ntmps45]; simp) ?_
  rw [Tryz.ntmps45]
  unfold f_disk_Disk_Rename at h
  refine AW.seq ?_
  refine AW.reg ?_
  refine Lp (V_asg rfl rfl) rfl rfl ?_
  refine Lnil ?_
  refine thenN ?_
  refine AW.seq ?_
  refine AW.seq ?_
  refine AW.reg ?_
  refine Lp (V_move rfl rfl) rfl rfl ?_
  refine Ls rfl rfl (X_call rfl Tryz.func80 rfl rfl rfl (ACalls.mono h ?_))
  rintro v σ ⟨x9_1, rfl, h⟩
  refine Lp (V_not rfl rfl) rfl rfl ?_
  refine Lp (V_move rfl rfl) rfl rfl ?_
  refine LsplitJ 4 (!x9_1) (bnot_iff Iff.rfl) h (fun fr σ => ∃ (x15_3 : Bool), FrLe [(0, .pointer a0), (1, .string a1), (2, .string a2), (15, .bool x15_3)] fr ∧ j2_disk_Disk_Rename B ro a0 a1 a2 Q x15_3 σ) ?_ ?_ ?_
  · intro h e3 hk3
    refine Ln rfl rfl rfl rfl (.inl (by rw [e3]; rfl)) ?_
    refine Ln rfl rfl rfl rfl (.inl (by rw [e3]; rfl)) ?_
    refine Ln rfl rfl rfl rfl (.inl (by rw [e3]; rfl)) ?_
    refine Lp (V_pickT rfl (evb e3) rfl) rfl rfl ?_
    exact hk3 _ _ ⟨_, (FrLe.cons rfl (FrLe.cons rfl (FrLe.cons rfl (FrLe.cons rfl (FrLe.nil _))))), h⟩
  · intro h e3 hk3
    refine Lypb (V_move rfl rfl) rfl rfl rfl rfl e3 ?_
    refine Lyb rfl rfl rfl rfl e3 (X_call rfl Tryz.func80 rfl rfl rfl (ACalls.mono h ?_))
    rintro v σ ⟨x13_11, rfl, h⟩
    refine Lypb (V_not rfl rfl) rfl rfl rfl rfl e3 ?_
    refine Lp (V_pickF rfl (evb e3) rfl) rfl rfl ?_
    exact hk3 _ _ ⟨_, (FrLe.cons rfl (FrLe.cons rfl (FrLe.cons rfl (FrLe.cons rfl (FrLe.nil _))))), h⟩
  rintro fr σ ⟨x15_3, hl, h⟩
  unfold j2_disk_Disk_Rename at h
  refine Lfr hl ?_
  refine Lnil ?_
  refine thenN ?_
  refine AW.iff rfl Iff.rfl h (fun h => ?_) (fun h => ?_)
  · refine AW.seq ?_
    refine AW.reg ?_
    refine Lp (V_asg rfl rfl) rfl rfl ?_
    refine Lnil ?_
    refine thenN ?_
    refine AW.ret ?_
    refine thenR ?_
    exact bR1 Tryz.results45 rfl ⟨_, rfl, h⟩
  refine AW.skip ?_
  refine thenN ?_
  refine AW.seq ?_
  refine AW.reg ?_
  refine Lp (V_move rfl rfl) rfl rfl ?_
  obtain ⟨p17_4, hc, h⟩ := h
  refine Lp (V_nil rfl (by rw [← hc]; rfl)) rfl rfl ?_
  refine Lp (V_fld rfl Tryz.underlying39 rfl ty37 (by decide) rfl) rfl rfl ?_
  obtain ⟨x19_5, hc, h⟩ := h
  refine Ls rfl rfl (X_ld rfl Tryz.underlying37 rfl rfl hc ?_)
  refine Lp (V_move rfl rfl) rfl rfl ?_
  refine Ls rfl rfl (X_lkp rfl rfl rfl (awp_mono _ h ?_))
  rintro v σ ⟨x21_6, rfl, h⟩
  refine Lp (V_asg rfl rfl) rfl rfl ?_
  refine Lnil ?_
  refine thenN ?_
  refine AW.seq ?_
  refine AW.seq ?_
  refine AW.reg ?_
  refine Lp (V_move rfl rfl) rfl rfl ?_
  refine Lp (V_eqP rfl Tryz.underlying102 rfl rfl) rfl rfl ?_
  refine Lnil ?_
  refine thenN ?_
  refine AW.iff rfl isNone_iff h (fun h => ?_) (fun h => ?_)
  · refine AW.seq ?_
    refine AW.reg ?_
    refine Lp (V_asg rfl rfl) rfl rfl ?_
    refine Lnil ?_
    refine thenN ?_
    refine AW.ret ?_
    refine thenR ?_
    exact bR1 Tryz.results45 rfl ⟨_, rfl, h⟩
  refine AW.skip ?_
  refine thenN ?_
  refine AW.seq ?_
  refine AW.reg ?_
  refine Lp (V_move rfl rfl) rfl rfl ?_
  obtain ⟨p25_7, hc, h⟩ := h
  refine Lp (V_nil rfl (by rw [← hc]; rfl)) rfl rfl ?_
  refine Lp (V_fld rfl Tryz.underlying39 rfl ty37 (by decide) rfl) rfl rfl ?_
  obtain ⟨x27_8, hc, h⟩ := h
  refine Ls rfl rfl (X_ld rfl Tryz.underlying37 rfl rfl hc ?_)
  refine Lp (V_move rfl rfl) rfl rfl ?_
  refine Ls rfl rfl (X_bi (s := Builtin.delete_ #[37, 9] 0 #[.map x27_8, .string a1]) rfl rfl (fun _ => rfl) (awp_mono _ h ?_))
  rintro v σ ⟨rfl, h⟩
  refine Lnil ?_
  refine thenN ?_
  refine AW.seq ?_
  refine AW.reg ?_
  refine Lp (V_move rfl rfl) rfl rfl ?_
  obtain ⟨p30_9, hc, h⟩ := h
  refine Lp (V_nil rfl (by rw [← hc]; rfl)) rfl rfl ?_
  refine Lp (V_fld rfl Tryz.underlying39 rfl ty37 (by decide) rfl) rfl rfl ?_
  obtain ⟨x32_10, hc, h⟩ := h
  refine Ls rfl rfl (X_ld rfl Tryz.underlying37 rfl rfl hc ?_)
  refine Lp (V_move rfl rfl) rfl rfl ?_
  refine Lp (V_move rfl rfl) rfl rfl ?_
  refine Ls rfl rfl (X_mup (.inl rfl) rfl rfl rfl (awp_mono _ h ?_))
  rintro _ σ h
  refine Lnil ?_
  refine thenN ?_
  refine AW.seq ?_
  refine AW.reg ?_
  refine Lp (V_asg rfl rfl) rfl rfl ?_
  refine Lnil ?_
  refine thenN ?_
  refine AW.ret ?_
  exact bR1 Tryz.results45 rfl ⟨_, rfl, h⟩

def f_disk_table_Files (B : World) (ro : AH) (a0 : Option Nat) (σ : AH) (Q : Sl → AH → Prop) : Prop :=
 c_maps_Keys_disk_file B ro a0 σ fun x4_1 σ =>
 c_slices_Sorted_string B ro x4_1 σ fun x5_2 σ =>
 Q x5_2 σ

set_option maxRecDepth 100000 in
set_option maxHeartbeats 4000000 in
theorem disk_table_Files_ok {B : World} {ro : AH} {a0 : Option Nat} {σ : AH} {Q : Sl → AH → Prop} (h : Sep ro σ → f_disk_table_Files B ro a0 σ Q) : c_disk_table_Files B ro a0 σ Q := by
  refine ACalls.of_sep fun hsep => ?_
  replace h := h hsep
  refine ACalls.of_body (args := [.map a0]) Tryz.func46 rfl (by rw [Tryz.ntmps46]; simp) ?_
  rw [Tryz.ntmps46]
  unfold f_disk_table_Files at h
  refine AW.seq ?_
  refine AW.reg ?_
  refine Lp (V_asg rfl rfl) rfl rfl ?_
  refine Lnil ?_
  refine thenN ?_
  refine AW.seq ?_
  refine AW.reg ?_
  refine Lp (V_move rfl rfl) rfl rfl ?_
  refine Ls rfl rfl (X_call rfl Tryz.func82 rfl rfl rfl (ACalls.mono h ?_))
  rintro x4_1 σ ⟨_, rfl, h⟩
  refine Ls rfl rfl (X_call rfl Tryz.func81 rfl rfl rfl (ACalls.mono h ?_))
  rintro v σ ⟨x5_2, rfl, h⟩
  refine Lp (V_asg rfl rfl) rfl rfl ?_
  refine Lnil ?_
  refine thenN ?_
  refine AW.ret ?_
  exact bR1 Tryz.results46 rfl ⟨_, rfl, h⟩

def f_disk_Disk_Read (B : World) (ro : AH) (a0 : Option Addr) (a1 : ByteArray) (σ : AH) (Q : Sl → Int → AH → Prop) : Prop :=
 ∃ p10_1 : Addr, a0 = some p10_1 ∧
 ∃ (x12_2 : Option Nat), acell ro σ p10_1 = some (.map x12_2) ∧
 nw ro σ (.cells #[.string a1] 9) fun x14_3 σ =>
 c_disk_table_find B ro x12_2 (⟨some ⟨x14_3, 0, none⟩, 1, 1⟩ : Sl) σ fun x15_4 x15_5 σ =>
 if ¬ (x15_5 = 0) then
  Q (⟨none, 0, 0⟩ : Sl) x15_5 σ
 else
 ∃ p22_6 : Addr, x15_4.a = some p22_6 ∧ (0 : Int) ≤ 0 ∧ 0 < (x15_4.len : Int) ∧
 ∃ (x23_7 : Option Addr), acell ro σ (p22_6.add (Int.toNat 0 * 1)) = some (.pointer x23_7) ∧
 ∃ p24_8 : Addr, x23_7 = some p24_8 ∧
 ∃ (x26_9 : Sl), acell ro σ p24_8 = some (Sl.v x26_9) ∧
 c_bytes_Clone B ro x26_9 σ fun x27_10 σ =>
 Q x27_10 0 σ

set_option maxRecDepth 100000 in
set_option maxHeartbeats 4000000 in
theorem disk_Disk_Read_ok {B : World} {ro : AH} {a0 : Option Addr} {a1 : ByteArray} {σ : AH} {Q : Sl → Int → AH → Prop} (h : Sep ro σ → f_disk_Disk_Read B ro a0 a1 σ Q) : c_disk_Disk_Read B ro a0 a1 σ Q := by
  refine ACalls.of_sep fun hsep => ?_
  replace h := h hsep
  refine ACalls.of_body (args := [.pointer a0, .string a1]) Tryz.func51 rfl (by rw [Tryz.ntmps51]; simp) ?_
  rw [Tryz.ntmps51]
  unfold f_disk_Disk_Read at h
  refine AW.seq ?_
  refine AW.reg ?_
  refine Lp (V_asg rfl rfl) rfl rfl ?_
  refine Lp (V_asg rfl rfl) rfl rfl ?_
  refine Lnil ?_
  refine thenN ?_
  refine AW.seq ?_
  refine AW.reg ?_
  refine Lp (V_move rfl rfl) rfl rfl ?_
  obtain ⟨p10_1, hc, h⟩ := h
  refine Lp (V_nil rfl (by rw [← hc]; rfl)) rfl rfl ?_
  refine Lp (V_fld rfl Tryz.underlying39 rfl ty37 (by decide) rfl) rfl rfl ?_
  obtain ⟨x12_2, hc, h⟩ := h
  refine Ls rfl rfl (X_ld rfl Tryz.underlying37 rfl rfl hc ?_)
  refine Lp (V_move rfl rfl) rfl rfl ?_
  refine Ls rfl rfl (X_new (A_bsl (vs := [(0, .string a1)]) (cs := #[.string a1]) rfl Tryz.underlying83 ty9 (by decide) rfl rfl) fun x14_3 g1 g2 => ?_)
  replace h := h x14_3 g1 g2
  refine Ls rfl rfl (X_call rfl Tryz.func76 rfl rfl rfl (ACalls.mono h ?_))
  rintro v σ ⟨x15_4, x15_5, rfl, h⟩
  refine Lp (V_move rfl rfl) rfl rfl ?_
  refine Lp (V_ext rfl rfl rfl) rfl rfl ?_
  refine Lp (V_ext rfl rfl rfl) rfl rfl ?_
  refine Lp (V_asg rfl rfl) rfl rfl ?_
  refine Lp (V_asg rfl rfl) rfl rfl ?_
  refine Lnil ?_
  refine thenN ?_
  refine AW.seq ?_
  refine AW.seq ?_
  refine AW.reg ?_
  refine Lp (V_move rfl rfl) rfl rfl ?_
  refine Lp (V_neq rfl rfl rfl) rfl rfl ?_
  refine Lnil ?_
  refine thenN ?_
  refine AW.iff rfl (bnot_iff decide_eq_true_iff) h (fun h => ?_) (fun h => ?_)
  · refine AW.seq ?_
    refine AW.reg ?_
    refine Lp (V_move rfl rfl) rfl rfl ?_
    refine Lp (V_asg rfl rfl) rfl rfl ?_
    refine Lp (V_asg rfl rfl) rfl rfl ?_
    refine Lnil ?_
    refine thenN ?_
    refine AW.ret ?_
    refine thenR ?_
    exact bR2 Tryz.results51 rfl rfl ⟨_, _, rfl, h⟩
  refine AW.skip ?_
  refine thenN ?_
  refine AW.seq ?_
  refine AW.reg ?_
  refine Lp (V_move rfl rfl) rfl rfl ?_
  obtain ⟨p22_6, ha, h0, h1, h⟩ := h
  refine Lp (V_ixA rfl Tryz.underlying140 ty102 (ixL rfl ha) rfl h0 h1) rfl rfl ?_
  obtain ⟨x23_7, hc, h⟩ := h
  refine Ls rfl rfl (X_ld rfl Tryz.underlying102 rfl rfl hc ?_)
  obtain ⟨p24_8, hc, h⟩ := h
  refine Lp (V_nil rfl (by rw [← hc]; rfl)) rfl rfl ?_
  refine Lp (V_fld rfl Tryz.underlying104 rfl ty22 (by decide) rfl) rfl rfl ?_
  obtain ⟨x26_9, hc, h⟩ := h
  refine Ls rfl rfl (X_ld rfl Tryz.underlying22 rfl rfl hc ?_)
  refine Ls rfl rfl (X_call rfl Tryz.func74 rfl rfl rfl (ACalls.mono h ?_))
  rintro v σ ⟨x27_10, rfl, h⟩
  refine Lp (V_asg rfl rfl) rfl rfl ?_
  refine Lp (V_asg rfl rfl) rfl rfl ?_
  refine Lnil ?_
  refine thenN ?_
  refine AW.ret ?_
  exact bR2 Tryz.results51 rfl rfl ⟨_, _, rfl, h⟩

def j2_disk_table_find (B : World) (ro : AH) (Q : Sl → Int → AH → Prop) (x8_3 : Sl) (σ : AH) : Prop :=
 Q x8_3 0 σ

def l4_disk_table_find (B : World) (ro : AH) (a0 : Option Nat) (a1 : Sl) (Q : Sl → Int → AH → Prop) : (Sl × Int) → AH → ((Sl × Int) → AH → Prop) → Prop := fun ⟨x8_5, x24_6⟩ σ Y4 =>
 if x24_6 < (a1.len : Int) then
  ∃ p26_7 : Addr, a1.a = some p26_7 ∧ (0 : Int) ≤ x24_6 ∧ x24_6 < (a1.len : Int) ∧
  ∃ (x27_8 : ByteArray), acell ro σ (p26_7.add (Int.toNat x24_6 * 1)) = some (.string x27_8) ∧
  awp Tryz.prog ro (Instr.lookup 37 (.map a0) (.string x27_8) false) (fun v σ =>
   (∃ (x30_9 : Option Addr), v = .pointer x30_9 ∧
    if x30_9 = none then
     Q (⟨none, 0, 0⟩ : Sl) 31 σ
    else
    nw ro σ (.cells #[.pointer x30_9] 102) fun x35_10 σ =>
    awp Tryz.prog ro (Builtin.append_ #[140, 140] 140 #[Sl.v x8_5, Sl.v (⟨some ⟨x35_10, 0, none⟩, 1, 1⟩ : Sl)]) (fun v σ => ∃ (x36_11 : Sl), v = Sl.v x36_11 ∧
     Y4 (x36_11, IntKind.i64.wrap (x24_6 + 1)) σ) σ)) σ
 else
 j2_disk_table_find B ro Q x8_5 σ

def j1_disk_table_find (B : World) (ro : AH) (a0 : Option Nat) (a1 : Sl) (Q : Sl → Int → AH → Prop) (σ : AH) : Prop :=
 lfpD (l4_disk_table_find B ro a0 a1 Q ) ((⟨none, 0, 0⟩ : Sl), 0) σ

def l12_disk_table_find (B : World) (ro : AH) (a0 : Option Nat) (a1 : Sl) (Q : Sl → Int → AH → Prop) : (Int) → AH → ((Int) → AH → Prop) → Prop := fun x14_13 σ Y12 =>
 if x14_13 < (a1.len : Int) then
  ∃ p16_14 : Addr, a1.a = some p16_14 ∧ (0 : Int) ≤ x14_13 ∧ x14_13 < (a1.len : Int) ∧
  ∃ (x17_15 : ByteArray), acell ro σ (p16_14.add (Int.toNat x14_13 * 1)) = some (.string x17_15) ∧
  c_disk_rightName B ro x17_15 σ fun x19_16 σ =>
  if ¬ (x19_16 = true) then
   Q (⟨none, 0, 0⟩ : Sl) 30 σ
  else
  Y12 (IntKind.i64.wrap (x14_13 + 1)) σ
 else
 j1_disk_table_find B ro a0 a1 Q σ

def f_disk_table_find (B : World) (ro : AH) (a0 : Option Nat) (a1 : Sl) (σ : AH) (Q : Sl → Int → AH → Prop) : Prop :=
 lfpD (l12_disk_table_find B ro a0 a1 Q ) (0) σ

set_option maxRecDepth 100000 in
set_option maxHeartbeats 4000000 in
theorem disk_table_find_ok {B : World} {ro : AH} {a0 : Option Nat} {a1 : Sl} {σ : AH} {Q : Sl → Int → AH → Prop} (h : Sep ro σ → f_disk_table_find B ro a0 a1 σ Q) : c_disk_table_find B ro a0 a1 σ Q := by
  refine ACalls.of_sep fun hsep => ?_
  replace h := h hsep
  refine ACalls.of_body (args := [.map a0, Sl.v a1]) Tryz.func76 rfl (by rw [Tryz.ntmps76]; simp) ?_
  rw [Tryz.ntmps76]
  unfold f_disk_table_find at h
  refine AW.seq ?_
  refine AW.reg ?_
  refine Lp (V_asg rfl rfl) rfl rfl ?_
  refine Lp (V_asg rfl rfl) rfl rfl ?_
  refine Lnil ?_
  refine thenN ?_
  refine AW.seqJ (fun fr σ => FrLe [(0, .map a0), (1, Sl.v a1)] fr ∧ j1_disk_table_find B ro a0 a1 Q σ) ?_ ?_
  rotate_left
  · refine AW.seq ?_
    refine AW.reg ?_
    refine Lp (V_move rfl rfl) rfl rfl ?_
    refine Lp (V_lenL rfl rfl Tryz.underlying83 rfl rfl) rfl rfl ?_
    refine Lp (V_move rfl rfl) rfl rfl ?_
    refine Lnil ?_
    refine thenN ?_
    refine AW.block ?_
    refine ARound.loop (fr' := [(0, .map a0), (1, Sl.v a1), (12, Sl.v a1), (13, .int .i64 (a1.len : Int)), (14, .int .i64 0)]) ?_ (FrLe.cons rfl (FrLe.cons rfl (FrLe.cons rfl (FrLe.cons rfl (FrLe.cons rfl (FrLe.nil _))))))
    refine h (fun x14_13 σ => ARound _ _ _ _ _ _ [(0, .map a0), (1, Sl.v a1), (12, Sl.v a1), (13, .int .i64 (a1.len : Int)), (14, .int .i64 x14_13)] σ) ?_
    rintro x14_13 σ Y12 hY12 h
    show AW _ _ _ _ _ _ _ _
    unfold l12_disk_table_find at h
    refine AW.seq ?_
    refine AW.reg ?_
    refine Lp (V_lss rfl rfl rfl) rfl rfl ?_
    refine Lnil ?_
    refine thenN ?_
    refine AW.seq ?_
    refine AW.iff rfl decide_eq_true_iff h (fun h => ?_) (fun h => ?_)
    rotate_left
    · refine AW.exit ?_
      refine thenE ?_
      refine thenE ?_
      refine blockE ?_
      refine thenN ?_
      exact ⟨(FrLe.cons rfl (FrLe.cons rfl (FrLe.nil _))), h⟩
    refine AW.skip ?_
    refine thenN ?_
    refine AW.seq ?_
    refine AW.block ?_
    refine AW.seq ?_
    refine AW.reg ?_
    obtain ⟨p16_14, ha, h0, h1, h⟩ := h
    refine Lp (V_ixA rfl Tryz.underlying83 ty9 (ixL rfl ha) rfl h0 h1) rfl rfl ?_
    obtain ⟨x17_15, hc, h⟩ := h
    refine Ls rfl rfl (X_ld rfl Tryz.underlying9 rfl rfl hc ?_)
    refine Lp (V_asg rfl rfl) rfl rfl ?_
    refine Lnil ?_
    refine thenN ?_
    refine AW.seq ?_
    refine AW.reg ?_
    refine Lp (V_move rfl rfl) rfl rfl ?_
    refine Ls rfl rfl (X_call rfl Tryz.func80 rfl rfl rfl (ACalls.mono h ?_))
    rintro v σ ⟨x19_16, rfl, h⟩
    refine Lp (V_not rfl rfl) rfl rfl ?_
    refine Lnil ?_
    refine thenN ?_
    refine AW.iff rfl (bnot_iff Iff.rfl) h (fun h => ?_) (fun h => ?_)
    · refine AW.seq ?_
      refine AW.reg ?_
      refine Lp (V_asg rfl rfl) rfl rfl ?_
      refine Lp (V_asg rfl rfl) rfl rfl ?_
      refine Lnil ?_
      refine thenN ?_
      refine AW.ret ?_
      refine blockR ?_
      refine thenR ?_
      refine thenR ?_
      refine blockR ?_
      refine thenR ?_
      exact bR2 Tryz.results76 rfl rfl ⟨_, _, rfl, h⟩
    refine AW.skip ?_
    refine blockN ?_
    refine thenN ?_
    refine AW.reg ?_
    refine Lp (V_add rfl rfl rfl) rfl rfl ?_
    refine Lp (V_move rfl rfl) rfl rfl ?_
    refine Lnil ?_
    refine thenN ?_
    refine ARound.head (fr' := [(0, .map a0), (1, Sl.v a1), (12, Sl.v a1), (13, .int .i64 (a1.len : Int)), (14, .int .i64 (IntKind.i64.wrap (x14_13 + 1)))]) ?_ (FrLe.cons rfl (FrLe.cons rfl (FrLe.cons rfl (FrLe.cons rfl (FrLe.cons rfl (FrLe.nil _))))))
    exact hY12 _ _ h
  rintro fr σ ⟨hl, h⟩
  refine AW.weaken ?_ hl (HLe.refl _)
  unfold j1_disk_table_find at h
  refine AW.seq ?_
  refine AW.reg ?_
  refine Lp (V_asg rfl rfl) rfl rfl ?_
  refine Lnil ?_
  refine thenN ?_
  refine AW.seqJ (fun fr σ => ∃ (x8_3 : Sl), FrLe [(8, Sl.v x8_3)] fr ∧ j2_disk_table_find B ro Q x8_3 σ) ?_ ?_
  · rintro fr σ ⟨x8_3, hl, h⟩
    refine AW.weaken ?_ hl (HLe.refl _)
    unfold j2_disk_table_find at h
    refine AW.seq ?_
    refine AW.reg ?_
    refine Lp (V_move rfl rfl) rfl rfl ?_
    refine Lp (V_asg rfl rfl) rfl rfl ?_
    refine Lp (V_asg rfl rfl) rfl rfl ?_
    refine Lnil ?_
    refine thenN ?_
    refine AW.ret ?_
    exact bR2 Tryz.results76 rfl rfl ⟨_, _, rfl, h⟩
  refine AW.seq ?_
  refine AW.reg ?_
  refine Lp (V_move rfl rfl) rfl rfl ?_
  refine Lp (V_lenL rfl rfl Tryz.underlying83 rfl rfl) rfl rfl ?_
  refine Lp (V_move rfl rfl) rfl rfl ?_
  refine Lnil ?_
  refine thenN ?_
  refine AW.block ?_
  refine ARound.loop (fr' := [(0, .map a0), (22, Sl.v a1), (23, .int .i64 (a1.len : Int)), (8, Sl.v (⟨none, 0, 0⟩ : Sl)), (24, .int .i64 0)]) ?_ (FrLe.cons rfl (FrLe.cons rfl (FrLe.cons rfl (FrLe.cons rfl (FrLe.cons rfl (FrLe.nil _))))))
  refine h (fun ⟨x8_5, x24_6⟩ σ => ARound _ _ _ _ _ _ [(0, .map a0), (22, Sl.v a1), (23, .int .i64 (a1.len : Int)), (8, Sl.v x8_5), (24, .int .i64 x24_6)] σ) ?_
  rintro ⟨x8_5, x24_6⟩ σ Y4 hY4 h
  show AW _ _ _ _ _ _ _ _
  unfold l4_disk_table_find at h
  dsimp only at h
  refine AW.seq ?_
  refine AW.reg ?_
  refine Lp (V_lss rfl rfl rfl) rfl rfl ?_
  refine Lnil ?_
  refine thenN ?_
  refine AW.seq ?_
  refine AW.iff rfl decide_eq_true_iff h (fun h => ?_) (fun h => ?_)
  rotate_left
  · refine AW.exit ?_
    refine thenE ?_
    refine thenE ?_
    refine blockE ?_
    refine thenN ?_
    exact ⟨_, (FrLe.cons rfl (FrLe.nil _)), h⟩
  refine AW.skip ?_
  refine thenN ?_
  refine AW.seq ?_
  refine AW.block ?_
  refine AW.seq ?_
  refine AW.reg ?_
  obtain ⟨p26_7, ha, h0, h1, h⟩ := h
  refine Lp (V_ixA rfl Tryz.underlying83 ty9 (ixL rfl ha) rfl h0 h1) rfl rfl ?_
  obtain ⟨x27_8, hc, h⟩ := h
  refine Ls rfl rfl (X_ld rfl Tryz.underlying9 rfl rfl hc ?_)
  refine Lp (V_asg rfl rfl) rfl rfl ?_
  refine Lnil ?_
  refine thenN ?_
  refine AW.seq ?_
  refine AW.reg ?_
  refine Lp (V_move rfl rfl) rfl rfl ?_
  refine Lp (V_move rfl rfl) rfl rfl ?_
  refine Ls rfl rfl (X_lkp rfl rfl rfl (awp_mono _ h ?_))
  rintro v σ ⟨x30_9, rfl, h⟩
  refine Lp (V_asg rfl rfl) rfl rfl ?_
  refine Lnil ?_
  refine thenN ?_
  refine AW.seq ?_
  refine AW.seq ?_
  refine AW.reg ?_
  refine Lp (V_move rfl rfl) rfl rfl ?_
  refine Lp (V_eqP rfl Tryz.underlying102 rfl rfl) rfl rfl ?_
  refine Lnil ?_
  refine thenN ?_
  refine AW.iff rfl isNone_iff h (fun h => ?_) (fun h => ?_)
  · refine AW.seq ?_
    refine AW.reg ?_
    refine Lp (V_asg rfl rfl) rfl rfl ?_
    refine Lp (V_asg rfl rfl) rfl rfl ?_
    refine Lnil ?_
    refine thenN ?_
    refine AW.ret ?_
    refine thenR ?_
    refine blockR ?_
    refine thenR ?_
    refine thenR ?_
    refine blockR ?_
    refine thenR ?_
    exact bR2 Tryz.results76 rfl rfl ⟨_, _, rfl, h⟩
  refine AW.skip ?_
  refine thenN ?_
  refine AW.reg ?_
  refine Lp (V_move rfl rfl) rfl rfl ?_
  refine Lp (V_move rfl rfl) rfl rfl ?_
  refine Ls rfl rfl (X_new (A_bsl (vs := [(0, .pointer x30_9)]) (cs := #[.pointer x30_9]) rfl Tryz.underlying140 ty102 (by decide) rfl rfl) fun x35_10 g1 g2 => ?_)
  replace h := h x35_10 g1 g2
  refine Ls rfl rfl (X_bi (s := Builtin.append_ #[140, 140] 140 #[Sl.v x8_5, Sl.v (⟨some ⟨x35_10, 0, none⟩, 1, 1⟩ : Sl)]) rfl rfl (fun _ => rfl) (awp_mono _ h ?_))
  rintro v σ ⟨x36_11, rfl, h⟩
  refine Lp (V_asg rfl rfl) rfl rfl ?_
  refine Lnil ?_
  refine blockN ?_
  refine thenN ?_
  refine AW.reg ?_
  refine Lp (V_add rfl rfl rfl) rfl rfl ?_
  refine Lp (V_move rfl rfl) rfl rfl ?_
  refine Lnil ?_
  refine thenN ?_
  refine ARound.head (fr' := [(0, .map a0), (22, Sl.v a1), (23, .int .i64 (a1.len : Int)), (8, Sl.v x36_11), (24, .int .i64 (IntKind.i64.wrap (x24_6 + 1)))]) ?_ (FrLe.cons rfl (FrLe.cons rfl (FrLe.cons rfl (FrLe.cons rfl (FrLe.cons rfl (FrLe.nil _))))))
  exact hY4 _ _ h

def f_disk_rightName (B : World) (ro : AH) (a0 : ByteArray) (σ : AH) (Q : Bool → AH → Prop) : Prop :=
 if (a0 = (⟨#[]⟩ : ByteArray)) ∨ (40 < (a0.size : Int)) then
  Q false σ
 else
 awp Tryz.prog ro (convert 9 22 (.string a0)) (fun v σ =>
  (∃ (x11_1 : Sl), v = Sl.v x11_1 ∧
   c_slices_ContainsFunc_byte_byte B ro x11_1 (.func (.func 106) #[] #[]) σ fun x12_2 σ =>
   Q (!x12_2) σ)) σ

set_option maxRecDepth 100000 in
set_option maxHeartbeats 4000000 in
theorem disk_rightName_ok {B : World} {ro : AH} {a0 : ByteArray} {σ : AH} {Q : Bool → AH → Prop} (h : Sep ro σ → f_disk_rightName B ro a0 σ Q) : c_disk_rightName B ro a0 σ Q := by
  refine ACalls.of_sep fun hsep => ?_
  replace h := h hsep
  refine ACalls.of_body (args := [.string a0]) Tryz.func80 rfl (by rw [Tryz.ntmps80]; simp) ?_
  rw [Tryz.ntmps80]
  unfold f_disk_rightName at h
  refine AW.seq ?_
  refine AW.reg ?_
  refine Lp (V_asg rfl rfl) rfl rfl ?_
  refine Lnil ?_
  refine thenN ?_
  refine AW.seq ?_
  refine AW.seq ?_
  refine AW.reg ?_
  refine Lp (V_move rfl rfl) rfl rfl ?_
  refine Lp (V_eqlS rfl rfl rfl) rfl rfl ?_
  refine Lp (V_move rfl rfl) rfl rfl ?_
  refine Lsplit 4 (decide (a0 = (⟨#[]⟩ : ByteArray))) [(0, .string a0), (9, .bool ((decide (a0 = (⟨#[]⟩ : ByteArray))) || (decide (40 < (a0.size : Int)))))] ?_ ?_ ?_
  · intro e2 hk2
    refine Ln rfl rfl rfl rfl (.inl (by rw [e2]; rfl)) ?_
    refine Ln rfl rfl rfl rfl (.inl (by rw [e2]; rfl)) ?_
    refine Ln rfl rfl rfl rfl (.inl (by rw [e2]; rfl)) ?_
    refine Lp (V_pickT rfl (evb e2) rfl) rfl rfl ?_
    exact hk2 _ (FrLe.cons rfl (FrLe.cons (by rw [e2]; rfl) (FrLe.nil _)))
  · intro e2 hk2
    refine Lypb (V_move rfl rfl) rfl rfl rfl rfl e2 ?_
    refine Lypb (V_lenS rfl rfl Tryz.underlying9 rfl rfl) rfl rfl rfl rfl e2 ?_
    refine Lypb (V_gtr rfl rfl rfl) rfl rfl rfl rfl e2 ?_
    refine Lp (V_pickF rfl (evb e2) rfl) rfl rfl ?_
    exact hk2 _ (FrLe.cons rfl (FrLe.cons (by rw [e2]; rfl) (FrLe.nil _)))
  intro fr hl
  refine Lfr hl ?_
  refine Lnil ?_
  refine thenN ?_
  refine AW.iff rfl (bor_iff decide_eq_true_iff decide_eq_true_iff) h (fun h => ?_) (fun h => ?_)
  · refine AW.seq ?_
    refine AW.reg ?_
    refine Lp (V_asg rfl rfl) rfl rfl ?_
    refine Lnil ?_
    refine thenN ?_
    refine AW.ret ?_
    refine thenR ?_
    exact bR1 Tryz.results80 rfl ⟨_, rfl, h⟩
  refine AW.skip ?_
  refine thenN ?_
  refine AW.seq ?_
  refine AW.reg ?_
  refine Lp (V_move rfl rfl) rfl rfl ?_
  refine Ls rfl rfl (X_cvt rfl rfl (awp_mono _ h ?_))
  rintro v σ ⟨x11_1, rfl, h⟩
  refine Ls rfl rfl (X_call rfl Tryz.func105 rfl rfl rfl (ACalls.mono h ?_))
  rintro v σ ⟨x12_2, rfl, h⟩
  refine Lp (V_not rfl rfl) rfl rfl ?_
  refine Lp (V_asg rfl rfl) rfl rfl ?_
  refine Lnil ?_
  refine thenN ?_
  refine AW.ret ?_
  exact bR1 Tryz.results80 rfl ⟨_, rfl, h⟩

def j1_disk_rightName_c1 (B : World) (ro : AH) (a0 : Int) (Q : Bool → AH → Prop) (x16_2 : Bool) (σ : AH) : Prop :=
 Q ((x16_2 && (!(decide (a0 = 46)))) && (!(decide (a0 = 45)))) σ

def f_disk_rightName_c1 (B : World) (ro : AH) (a0 : Int) (σ : AH) (Q : Bool → AH → Prop) : Prop :=
 if (a0 < 97) ∨ (122 < a0) then
  j1_disk_rightName_c1 B ro a0 Q ((decide (a0 < 48)) || (decide (57 < a0))) σ
 else
 j1_disk_rightName_c1 B ro a0 Q false σ

set_option maxRecDepth 100000 in
set_option maxHeartbeats 4000000 in
theorem disk_rightName_c1_ok {B : World} {ro : AH} {a0 : Int} {σ : AH} {Q : Bool → AH → Prop} (h : Sep ro σ → f_disk_rightName_c1 B ro a0 σ Q) : c_disk_rightName_c1 B ro a0 σ Q := by
  refine ACalls.of_sep fun hsep => ?_
  replace h := h hsep
  refine ACalls.of_body (args := [.int .u8 a0]) Tryz.func106 rfl (by rw [Tryz.ntmps106]; simp) ?_
  rw [Tryz.ntmps106]
  unfold f_disk_rightName_c1 at h
  refine AW.seq ?_
  refine AW.reg ?_
  refine Lp (V_asg rfl rfl) rfl rfl ?_
  refine Lnil ?_
  refine thenN ?_
  refine AW.seq ?_
  refine AW.reg ?_
  refine Lp (V_move rfl rfl) rfl rfl ?_
  refine Lp (V_lss rfl rfl rfl) rfl rfl ?_
  refine Lp (V_move rfl rfl) rfl rfl ?_
  refine Lsplit 3 (decide (a0 < 97)) [(0, .int .u8 a0), (8, .bool ((decide (a0 < 97)) || (decide (122 < a0))))] ?_ ?_ ?_
  · intro e2 hk2
    refine Ln rfl rfl rfl rfl (.inl (by rw [e2]; rfl)) ?_
    refine Ln rfl rfl rfl rfl (.inl (by rw [e2]; rfl)) ?_
    refine Lp (V_pickT rfl (evb e2) rfl) rfl rfl ?_
    exact hk2 _ (FrLe.cons rfl (FrLe.cons (by rw [e2]; rfl) (FrLe.nil _)))
  · intro e2 hk2
    refine Lypb (V_move rfl rfl) rfl rfl rfl rfl e2 ?_
    refine Lypb (V_gtr rfl rfl rfl) rfl rfl rfl rfl e2 ?_
    refine Lp (V_pickF rfl (evb e2) rfl) rfl rfl ?_
    exact hk2 _ (FrLe.cons rfl (FrLe.cons (by rw [e2]; rfl) (FrLe.nil _)))
  intro fr hl
  refine Lfr hl ?_
  refine Lp (V_move rfl rfl) rfl rfl ?_
  refine LsplitJ 7 ((decide (a0 < 97)) || (decide (122 < a0))) (bor_iff decide_eq_true_iff decide_eq_true_iff) h (fun fr σ => ∃ (x16_2 : Bool), FrLe [(0, .int .u8 a0), (16, .bool x16_2)] fr ∧ j1_disk_rightName_c1 B ro a0 Q x16_2 σ) ?_ ?_ ?_
  · intro h e6 hk6
    refine Lypb (V_move rfl rfl) rfl rfl rfl rfl e6 ?_
    refine Lypb (V_lss rfl rfl rfl) rfl rfl rfl rfl e6 ?_
    refine Lypb (V_move rfl rfl) rfl rfl rfl rfl e6 ?_
    refine Lsplit 3 (decide (a0 < 48)) [(0, .int .u8 a0), (9, .bool ((decide (a0 < 97)) || (decide (122 < a0)))), (15, .bool ((decide (a0 < 48)) || (decide (57 < a0))))] ?_ ?_ ?_
    · intro e9 hk9
      refine Ln rfl rfl rfl rfl (.inl (by rw [e9]; rfl)) ?_
      refine Ln rfl rfl rfl rfl (.inl (by rw [e9]; rfl)) ?_
      refine Lypb (V_pickT rfl (evb e9) rfl) rfl rfl rfl rfl e6 ?_
      exact hk9 _ (FrLe.cons rfl (FrLe.cons rfl (FrLe.cons (by rw [e9]; rfl) (FrLe.nil _))))
    · intro e9 hk9
      refine Lypb (V_move rfl rfl) rfl rfl rfl rfl e9 ?_
      refine Lypb (V_gtr rfl rfl rfl) rfl rfl rfl rfl e9 ?_
      refine Lypb (V_pickF rfl (evb e9) rfl) rfl rfl rfl rfl e6 ?_
      exact hk9 _ (FrLe.cons rfl (FrLe.cons rfl (FrLe.cons (by rw [e9]; rfl) (FrLe.nil _))))
    intro fr hl
    refine Lfr hl ?_
    refine Lp (V_pickT rfl (evb e6) rfl) rfl rfl ?_
    exact hk6 _ _ ⟨_, (FrLe.cons rfl (FrLe.cons rfl (FrLe.nil _))), h⟩
  · intro h e6 hk6
    refine Ln rfl rfl rfl rfl (.inl (by rw [e6]; rfl)) ?_
    refine Ln rfl rfl rfl rfl (.inl (by rw [e6]; rfl)) ?_
    refine Ln rfl rfl rfl rfl (.inl (by rw [e6]; rfl)) ?_
    refine Ln rfl rfl rfl rfl (.inr rfl) ?_
    refine Ln rfl rfl rfl rfl (.inr rfl) ?_
    refine Ln rfl rfl rfl rfl (.inl (by rw [e6]; rfl)) ?_
    refine Lp (V_pickF rfl (evb e6) rfl) rfl rfl ?_
    exact hk6 _ _ ⟨_, (FrLe.cons rfl (FrLe.cons rfl (FrLe.nil _))), h⟩
  rintro fr σ ⟨x16_2, hl, h⟩
  unfold j1_disk_rightName_c1 at h
  refine Lfr hl ?_
  refine Lp (V_move rfl rfl) rfl rfl ?_
  refine Lsplit 3 x16_2 [(0, .int .u8 a0), (20, .bool (x16_2 && (!(decide (a0 = 46)))))] ?_ ?_ ?_
  · intro e14 hk14
    refine Lypb (V_move rfl rfl) rfl rfl rfl rfl e14 ?_
    refine Lypb (V_neq rfl rfl rfl) rfl rfl rfl rfl e14 ?_
    refine Lp (V_pickT rfl (evb e14) rfl) rfl rfl ?_
    exact hk14 _ (FrLe.cons rfl (FrLe.cons (by rw [e14]; rfl) (FrLe.nil _)))
  · intro e14 hk14
    refine Ln rfl rfl rfl rfl (.inl (by rw [e14]; rfl)) ?_
    refine Ln rfl rfl rfl rfl (.inl (by rw [e14]; rfl)) ?_
    refine Lp (V_pickF rfl (evb e14) rfl) rfl rfl ?_
    exact hk14 _ (FrLe.cons rfl (FrLe.cons (by rw [e14]; rfl) (FrLe.nil _)))
  intro fr hl
  refine Lfr hl ?_
  refine Lp (V_move rfl rfl) rfl rfl ?_
  refine Lsplit 3 (x16_2 && (!(decide (a0 = 46)))) [(24, .bool ((x16_2 && (!(decide (a0 = 46)))) && (!(decide (a0 = 45)))))] ?_ ?_ ?_
  · intro e18 hk18
    refine Lypb (V_move rfl rfl) rfl rfl rfl rfl e18 ?_
    refine Lypb (V_neq rfl rfl rfl) rfl rfl rfl rfl e18 ?_
    refine Lp (V_pickT rfl (evb e18) rfl) rfl rfl ?_
    exact hk18 _ (FrLe.cons (by rw [e18]; rfl) (FrLe.nil _))
  · intro e18 hk18
    refine Ln rfl rfl rfl rfl (.inl (by rw [e18]; rfl)) ?_
    refine Ln rfl rfl rfl rfl (.inl (by rw [e18]; rfl)) ?_
    refine Lp (V_pickF rfl (evb e18) rfl) rfl rfl ?_
    exact hk18 _ (FrLe.cons (by rw [e18]; rfl) (FrLe.nil _))
  intro fr hl
  refine Lfr hl ?_
  refine Lp (V_asg rfl rfl) rfl rfl ?_
  refine Lnil ?_
  refine thenN ?_
  refine AW.ret ?_
  exact bR1 Tryz.results106 rfl ⟨_, rfl, h⟩

end Go.Proofs.YtfobjidchipdaaaGreatDoor.G

/- Disks, the walk: names, how much is used, files found and read. -/
namespace Go.Proofs.YtfobjidchipdaaaGreatDoor.Dk
open Go Go.Proofs.YtfobjidchipdaaaGreatDoor.SL Go.Proofs.YtfobjidchipdaaaGreatDoor.G Go.Proofs.YtfobjidchipdaaaGreatDoor.Pa
set_option linter.unusedSimpArgs false
set_option linter.unusedVariables false
set_option maxRecDepth 100000
variable {B : World} {ro σ σ' : AH} {tag tag' : Nat → Nat}
theorem u9 : Tryz.prog.underlying 9 = some .string := by kernel_rfl
theorem u37 : Tryz.prog.underlying 37 = some (.map 9 102) := by kernel_rfl
theorem u140 : Tryz.prog.underlying 140 = some (.slice 102) := by kernel_rfl
theorem S_size' (x : Str) : (S x).size = x.length := by rw [← L_len, L_S]

/-! ### names -/
def badC (c : UInt8) : Bool := ((decide (c.toNat < 97) || decide (122 < c.toNat)) && (decide (c.toNat < 48) || decide (57 < c.toNat))) && !decide (c.toNat = 46) && !decide (c.toNat = 45)
def dName (s : Str) : Bool := !decide (s = []) && decide (s.length ≤ 40) && !s.any badC
theorem call106 {c : UInt8} {K : Value → AH → Prop} (hK : K (.bool (badC c)) σ) : callV Tryz.prog B ro (.func (.func 106) #[] #[]) [vU c] σ K := by
  refine ⟨106, Tryz.f106, #[], #[], rfl, Tryz.func106, by kernel_rfl, by kernel_rfl, ?_⟩
  have : c_disk_rightName_c1 B ro (c.toNat : Int) σ fun r σ => K (.bool r) σ := by
    refine disk_rightName_c1_ok fun _ => ?_
    unfold f_disk_rightName_c1 j1_disk_rightName_c1
    unfold badC at hK
    by_cases h : (c.toNat : Int) < 97 ∨ (122 : Int) < (c.toNat : Int)
    · rw [if_pos h]
      rw [show (decide (c.toNat < 97) || decide (122 < c.toNat)) = true by simp; omega] at hK
      rw [show decide ((c.toNat : Int) < 48) = decide (c.toNat < 48) by simp; omega, show decide ((57 : Int) < (c.toNat : Int)) = decide (57 < c.toNat) by simp; omega,
        show decide ((c.toNat : Int) = 46) = decide (c.toNat = 46) by simp; omega, show decide ((c.toNat : Int) = 45) = decide (c.toNat = 45) by simp; omega]
      exact hK
    · rw [if_neg h]
      rw [show (decide (c.toNat < 97) || decide (122 < c.toNat)) = false by simp; omega] at hK
      exact hK
  exact ACalls.mono this fun v τ ⟨r, e, q⟩ => e ▸ q
theorem rightName_ok {s : Str} {Q : Bool → AH → Prop} (hQ : Q (dName s) σ) : c_disk_rightName B ro (S s) σ Q := by
  refine ACalls.quiet (R := fun v => v = .bool (dName s)) ?_ (fun v hv => ⟨_, hv, hQ⟩)
  have : c_disk_rightName B ro (S s) (fun _ => none) fun r _ => r = dName s := by
    refine disk_rightName_ok fun hs => ?_
    unfold f_disk_rightName
    have e0 : (S s = (⟨#[]⟩ : ByteArray)) ↔ s = [] := by
      rw [show (⟨#[]⟩ : ByteArray) = S [] from rfl, S_inj]
    by_cases h : S s = (⟨#[]⟩ : ByteArray) ∨ (40 : Int) < ((S s).size : Int)
    · rw [if_pos h]
      rw [S_size', e0] at h
      unfold dName
      rcases h with h | h
      · simp [h]
      · rw [show decide (s.length ≤ 40) = false by simp; omega]; simp
    · rw [if_neg h]
      rw [S_size', e0] at h
      have h1 : s ≠ [] := fun e => h (.inl e)
      have h2 : s.length ≤ 40 := by have : ¬ (40 : Int) < (s.length : Int) := fun e => h (.inr e); omega
      refine Zt.awp_s2b (tag := fun _ => 0) hs fun x tag1 σ1 st1 hx => ?_
      refine ⟨x, rfl, ?_⟩
      refine Zt.containsFunc_ok (f := badC) (hx.read (st1 []).sep) (by omega) (fun c _ K hK => call106 hK) ?_
      unfold dName
      simp [h1, h2]
  exact ACalls.mono this fun v τ ⟨r, e, q⟩ => by rw [e, q]

/-! ### how much -/
def used (fs : Fs) : Nat := (fs.map (·.2.b.length)).sum
theorem sum_perm {l l' : List Nat} (h : l.Perm l') : l.sum = l'.sum := by
  induction h with
  | nil => rfl
  | cons x _ ih => simp [ih]
  | swap x y l => simp; omega
  | trans _ _ h1 h2 => exact h1.trans h2
def szOf (ps : Ps) (k : Str) : Nat := ((ps.lookup k).map fun x => x.2.b.length).getD 0
theorem used_sz {ps : Ps} (hn : (ps.map (·.1)).Nodup) : ((ps.map kvp).map fun p => szOf ps p.1).sum = used (pfs ps) := by
  unfold used pfs
  rw [List.map_map, List.map_map]
  congr 1
  refine List.map_congr_left fun p hp => ?_
  show szOf ps p.1 = p.2.2.b.length
  unfold szOf
  rw [lookup_mem hn (k := p.1) (x := p.2) hp]; rfl
theorem used_ok {r M : Nat} {ps : Ps} {Q : Int → AH → Prop} (hm : MapIs tag σ (r + 64) M (ps.map kvp)) (hn : (ps.map (·.1)).Nodup) (hf : ∀ p ∈ ps, FileAt 104 tag σ r p.2.1 p.2.2) (hr : r < 64) (hr0 : r ≠ 0) (hs : SL.Sep ro σ)
    (hu : used (pfs ps) < 4611686018427387904) (hQ : ∀ tag' σ', Step [0] ro tag σ tag' σ' → Q (used (pfs ps) : Nat) σ') : c_disk_table_Used B ro (some M) σ Q := by
  refine disk_table_Used_ok fun _ => ?_
  unfold f_disk_table_Used
  refine map_loop (F := fun p => l4_disk_table_Used B ro p Q) (R := []) (ty := 0) u37 hm hs (by simp) (by simp) (by omega)
    (fun d n tag1 σ1 => Step [0] ro tag σ tag1 σ1 ∧ n = ((d.map fun p => szOf ps p.1).sum : Nat)) (E := fun n σ => Q n σ)
    (G := fun n a b σ Y => ∃ (x10_9 : Option Addr), b = .pointer x10_9 ∧ ∃ p14_10 : Addr, x10_9 = some p14_10 ∧ ∃ (x16_11 : Sl), acell ro σ p14_10 = some (Sl.v x16_11) ∧ Y (IntKind.i64.wrap (n + (x16_11.len : Int))) σ) ?_ ?_ ?_ ?_ ?_
  · intro p s σ1 Y h
    unfold l4_disk_table_Used
    refine awp_mono _ h ?_
    rintro v σ2 (⟨h1, h2⟩ | ⟨a, b, h1, h2⟩)
    · exact .inl ⟨h1, h2⟩
    · refine .inr ⟨a, b, h1, awp_mono _ h2 ?_⟩
      rintro v σ3 ⟨a, b, rfl, x, rfl, h⟩
      exact ⟨a, x, rfl, h⟩
  · rintro d s tag1 σ1 tag2 σ2 ⟨h1, h2⟩ st
    exact ⟨h1.trans st, h2⟩
  · rintro d s tag1 σ1 hp hs1 ⟨h1, rfl⟩
    have e : (d.map fun p => szOf ps p.1).sum = used (pfs ps) := by
      rw [← used_sz hn]; exact sum_perm (hp.map _)
    rw [e]; exact hQ tag1 σ1 h1
  · rintro d p q s tag1 σ1 Y hp hs1 ⟨h1, rfl⟩ hm1 hY
    have hin : p ∈ ps.map kvp := hp.mem_iff.1 (by simp)
    obtain ⟨p', hp', rfl⟩ := List.mem_map.1 hin
    obtain ⟨k, b, f⟩ := p'
    obtain ⟨s, hc, hb⟩ := (hf _ hp').keep h1 (by simp) (by simp)
    obtain ⟨q', hq, hg⟩ := hc.ptr hs1 (by simp)
    cases hq
    refine ⟨_, rfl, _, rfl, s, hg 0 _ rfl, ?_⟩
    have hl : s.len = f.b.length := by rw [hb.len, List.length_map]
    have e1 : szOf ps k = f.b.length := by unfold szOf; rw [lookup_mem hn hp']; rfl
    have hle : (d.map fun p => szOf ps p.1).sum + f.b.length ≤ used (pfs ps) := by
      rw [← used_sz hn, ← sum_perm (hp.map fun p : Str × Value => szOf ps p.1)]
      rw [List.map_append, List.map_cons, List.sum_append, List.sum_cons]
      show _ ≤ _ + (szOf ps k + _)
      rw [e1]; omega
    refine hY _ tag1 σ1 (Step.refl hs1) ⟨h1, ?_⟩
    rw [SL.w64_eq (by omega) (by omega), hl, List.map_append, List.sum_append]
    show _ = ((_ + (szOf ps k + 0) : Nat) : Int)
    rw [e1]; omega
  · exact ⟨Step.refl hs, rfl⟩
end Go.Proofs.YtfobjidchipdaaaGreatDoor.Dk
