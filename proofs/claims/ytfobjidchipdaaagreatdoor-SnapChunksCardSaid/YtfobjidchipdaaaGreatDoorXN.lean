/- RgD, RgE, RgF, RgG, RgH -/
import Derived.Test.YtfobjidchipdaaaGreatDoorXM
/- The document's chunks put together: how they lie in memory; find, Missing. -/
namespace Go.Proofs.YtfobjidchipdaaaGreatDoor.SL
open Go
theorem RowW.outR {tag : Nat → Nat} {σ : AH} {L : List Nat} {r : Nat} {e : TypeId} {w : Nat} {s : Sl} {l : List (List Value)} (h : RowW tag σ r e w s l) (hr : r ∉ L) : RowW tag (SL.outR tag L σ) r e w s l := by
  rcases h with h | ⟨b, cs, ha, ht, hs, hx⟩
  · exact .inl h
  · exact .inr ⟨b, cs, ha, ht, by unfold SL.outR; rw [if_neg (by rw [ht]; exact hr)]; exact hs, hx⟩
theorem RowW.keepS {ro σ σ' : AH} {tag tag' : Nat → Nat} {C : List Nat} {r : Nat} {e : TypeId} {w : Nat} {s : Sl} {l : List (List Value)} (h : RowW tag σ r e w s l) (k : StepS C ro tag σ tag' σ') (hr : r % 64 ∉ C) : RowW tag' σ' r e w s l := by
  obtain ⟨R, h1, h2⟩ := k
  exact h.keep h2 fun m => hr (h1 _ m)
theorem RowW.backR {tag tag1 : Nat → Nat} {σ τ : AH} {L : List Nat} {r : Nat} {e : TypeId} {w : Nat} {s : Sl} {l : List (List Value)} (h : RowW tag1 τ r e w s l) (hd : Disj (inR tag L σ) τ) : RowW (tagB tag tag1 L σ) (join (inR tag L σ) τ) r e w s l := by
  rcases h with h | ⟨b, cs, ha, ht, hs, hx⟩
  · exact .inl h
  · have hn : inR tag L σ b = none := by
      cases e : inR tag L σ b with
      | none => rfl
      | some o => have := hd b o e; rw [hs] at this; cases this
    exact .inr ⟨b, cs, ha, by rw [tagB_out hn]; exact ht, by unfold join; rw [hn]; exact hs, hx⟩
end Go.Proofs.YtfobjidchipdaaaGreatDoor.SL
namespace Go.Proofs.YtfobjidchipdaaaGreatDoor.Sn
open Go Go.Proofs.YtfobjidchipdaaaGreatDoor.SL Go.Proofs.YtfobjidchipdaaaGreatDoor.G Go.Proofs.YtfobjidchipdaaaGreatDoor.Pa Go.Proofs.YtfobjidchipdaaaGreatDoor.Wi
set_option linter.unusedSimpArgs false
set_option linter.unusedVariables false
set_option maxRecDepth 100000
variable {B : World} {ro σ σ' : AH} {tag tag' : Nat → Nat}
/-- a chunk of the document's, its cells -/
def rk (a : As) (q : Int × Sl × Str) : List Value := [Zt.vI a.number, Zt.vI a.count, Zt.vI q.1, Zt.vI a.length, Zt.vI a.sum, Sl.v q.2.1]
/-- what both sides know of what was put together -/
structure AsIn (a : As) : Prop where
  ok : AsOk a
  zero : a.count = 0 ↔ a.parts = []
  key : ∀ p ∈ a.parts, ∃ n : Nat, p.1 = (n : Int) ∧ n < a.count
  nd : (a.parts.map (·.1)).Nodup
theorem AsIn.new : AsIn As.new := ⟨⟨by decide, fun p h => by cases h⟩, ⟨fun _ => rfl, fun _ => rfl⟩, (fun p h => by cases h), List.nodup_nil⟩
theorem AsIn.len {a : As} (h : AsIn a) : a.parts.length ≤ a.count := by
  have h1 := sub_len (L := (List.range a.count).map fun (i : Nat) => (i : Int)) h.nd fun x hx => by
    obtain ⟨p, hp, rfl⟩ := List.mem_map.1 hx
    obtain ⟨j, e, hj⟩ := h.key p hp
    rw [e]; exact List.mem_map.2 ⟨j, List.mem_range.2 hj, rfl⟩
  rw [List.length_map, List.length_map, List.length_range] at h1
  exact h1
structure RAt (tag : Nat → Nat) (σ : AH) (r T : Nat) (a : As) (s : Sl) (qs : Qs) : Prop where
  parts : a.parts = qs.map (fun q => (q.1, q.2.2))
  top : Row tag σ r 56 ⟨some ⟨T, 0, none⟩, 1, 1⟩ [Sl.v s]
  row : RowW tag σ (r + 64) 125 6 s (qs.map fun q => rk a q)
  data : ∀ q ∈ qs, Row tag σ 6 5 q.2.1 (q.2.2.map Zt.vU)
theorem RAt.keep {R : List Nat} {r T : Nat} {a : As} {s : Sl} {qs : Qs} (h : RAt tag σ r T a s qs) (k : Step R ro tag σ tag' σ') (h1 : r ∉ R) (h2 : r + 64 ∉ R) (h6 : 6 ∉ R) : RAt tag' σ' r T a s qs :=
  ⟨h.parts, h.top.keep k h1, h.row.keep k h2, fun q hq => (h.data q hq).keep k h6⟩
theorem RAt.keepS {C : List Nat} {r T : Nat} {a : As} {s : Sl} {qs : Qs} (h : RAt tag σ r T a s qs) (k : StepS C ro tag σ tag' σ') (hr : r % 64 ∉ C) (h6 : 6 ∉ C) : RAt tag' σ' r T a s qs := by
  obtain ⟨R, h1, h2⟩ := k
  refine h.keep h2 (fun m => hr (h1 _ m)) (fun m => hr ?_) (fun m => h6 (h1 _ m))
  have := h1 _ m
  rwa [Nat.add_mod_right] at this
/-- the same, to be read -/
structure Lst (ro σ : AH) (T : Nat) (a : As) (s : Sl) (qs : Qs) : Prop where
  top : acell ro σ ⟨T, 0, none⟩ = some (Sl.v s)
  len : s.len = qs.length
  cell : ∀ (j : Nat) (q : Int × Sl × Str), qs[j]? = some q → ∃ b, s.a = some ⟨b, 0, none⟩ ∧ ∀ (i : Nat) (v : Value), (rk a q)[i]? = some v → acell ro σ ⟨b, j * 6 + i, none⟩ = some v
theorem RAt.lst {r T : Nat} {a : As} {s : Sl} {qs : Qs} (h : RAt tag σ r T a s qs) (hs : SL.Sep ro σ) : Lst ro σ T a s qs := by
  refine ⟨h.top.cell1 hs, by rw [h.row.len, List.length_map], fun j q hq => ?_⟩
  obtain ⟨b, hb, _, hc⟩ := h.row.get hs (j := j) (x := rk a q) (by rw [List.getElem?_map, hq]; rfl)
  exact ⟨b, hb, hc⟩
theorem Lst.lent {T : Nat} {a : As} {s : Sl} {qs : Qs} {L : List Nat} (h : Lst ro σ T a s qs) (hs : SL.Sep ro σ) : Lst (join ro (inR tag L σ)) (outR tag L σ) T a s qs := by
  refine ⟨by rw [acell_lentR hs]; exact h.top, h.len, fun j q hq => ?_⟩
  obtain ⟨b, hb, hc⟩ := h.cell j q hq
  exact ⟨b, hb, fun i v hv => by rw [acell_lentR hs]; exact hc i v hv⟩
theorem Lst.at {T : Nat} {a : As} {s : Sl} {qs : Qs} (h : Lst ro σ T a s qs) {j : Nat} {q : Int × Sl × Str} (hq : qs[j]? = some q) {p : Addr} (hp : s.a = some p) {i : Nat} {v : Value} (hv : (rk a q)[i]? = some v) : acell ro σ ((p.add (j * 6)).add i) = some v := by
  obtain ⟨b, hb, hc⟩ := h.cell j q hq
  rw [hp] at hb; cases hb
  have := hc i v hv
  rw [add_add, add_add, Nat.zero_add]; exact this
theorem Lst.ptr {T : Nat} {a : As} {s : Sl} {qs : Qs} (h : Lst ro σ T a s qs) {j : Nat} (hj : j < qs.length) : ∃ p, s.a = some p := by
  obtain ⟨b, hb, _⟩ := h.cell j _ (List.getElem?_eq_getElem hj)
  exact ⟨_, hb⟩
theorem find_ok {T : Nat} {a : As} {s : Sl} {qs : Qs} {x : Int} {Q : Int → AH → Prop} (h : Lst ro σ T a s qs) (hl : qs.length ≤ 4294967296)
    (hno : (∀ q ∈ qs, q.1 ≠ x) → Q (-1) σ) (hyes : ∀ (i : Nat) (q : Int × Sl × Str), qs[i]? = some q → q.1 = x → Q (i : Nat) σ) : c_ref05_Asm_find B ro (some ⟨T, 0, none⟩) x σ Q := by
  refine ref05_Asm_find_ok fun hs => ?_
  unfold f_ref05_Asm_find
  have hsl := h.len
  suffices ∀ m j, j + m = qs.length → (∀ (i : Nat) (q : Int × Sl × Str), i < j → qs[i]? = some q → q.1 ≠ x) → lfpD (l2_ref05_Asm_find B ro (some ⟨T, 0, none⟩) x Q) (j : Int) σ from this _ 0 (Nat.zero_add _) (fun i q h => by omega)
  intro m
  induction m with
  | zero =>
    intro j hj hall
    refine lfpD.intro ?_
    unfold l2_ref05_Asm_find
    refine ⟨_, rfl, s, h.top, ?_⟩
    rw [if_neg (by omega)]
    unfold j1_ref05_Asm_find
    refine hno fun q hq => ?_
    obtain ⟨i, hi, rfl⟩ := List.mem_iff_getElem.1 hq
    exact hall i _ (by omega) (List.getElem?_eq_getElem hi)
  | succ m ih =>
    intro j hj hall
    have hjl : j < qs.length := by omega
    obtain ⟨p, hp⟩ := h.ptr hjl
    have hq := List.getElem?_eq_getElem hjl
    generalize qs[j] = q at hq
    refine lfpD.intro ?_
    unfold l2_ref05_Asm_find
    refine ⟨_, rfl, s, h.top, ?_⟩
    rw [if_pos (by omega)]
    refine ⟨_, rfl, s, h.top, p, hp, by omega, by omega, q.1, ?_, ?_⟩
    · rw [Int.toNat_natCast]; exact h.at hq hp (i := 2) rfl
    by_cases c : q.1 = x
    · rw [if_pos c]; exact hyes j q hq c
    · rw [if_neg c, Pa.inc j (by omega)]
      refine ih (j + 1) (by omega) fun i q' hi hq' => ?_
      rcases Nat.lt_or_ge i j with h1 | h1
      · exact hall i q' h1 hq'
      · obtain rfl : i = j := by omega
        rw [hq] at hq'; cases hq'; exact c
/-- which places are there -/
theorem mem_look {a : As} (h : AsIn a) {qs : Qs} (hp : a.parts = qs.map (fun q => (q.1, q.2.2))) (x : Int) : (∃ q ∈ qs, q.1 = x) ↔ (a.parts.lookup x).isSome = true := by
  constructor
  · rintro ⟨q, hq, rfl⟩
    have : (q.1, q.2.2) ∈ a.parts := by rw [hp]; exact List.mem_map.2 ⟨q, hq, rfl⟩
    have hm : ∀ (l : List (Int × Str)) (k : Int) (v : Str), (k, v) ∈ l → (l.lookup k).isSome = true := by
      intro l
      induction l with
      | nil => intro k v h; cases h
      | cons w l ih =>
        intro k v h
        rw [List.lookup_cons]
        by_cases e : k = w.1
        · simp [e]
        · rw [show (k == w.1) = false by simpa using e]
          rcases List.mem_cons.1 h with h | h
          · rw [← h] at e; exact absurd rfl e
          · exact ih k v h
    exact hm _ _ _ this
  · intro hs
    obtain ⟨v, hv⟩ := Option.isSome_iff_exists.1 hs
    have := qlook_mem hv
    rw [hp] at this
    obtain ⟨q, hq, e⟩ := List.mem_map.1 this
    exact ⟨q, hq, by simpa using congrArg Prod.fst e⟩
def hasAt (qs : Qs) (x : Int) : Bool := qs.any fun q => decide (q.1 = x)
theorem hasAt_iff {qs : Qs} {x : Int} : hasAt qs x = true ↔ ∃ q ∈ qs, q.1 = x := by unfold hasAt; simp
theorem rmissing_ok {r T : Nat} {a : As} {s : Sl} {qs : Qs} {Q : Sl → AH → Prop} (hr : r < 64) (hr0 : r ∉ [0, 6, 16, 19]) (h : RAt tag σ r T a s qs) (hI : AsIn a)
    (hQ : ∀ s' tag' σ', StepS [0, 16, 19] ro tag σ tag' σ' → Row tag' σ' 19 3 s' ((asMissing a).map Zt.vI) → Q s' σ') : c_ref05_Asm_Missing B ro (some ⟨T, 0, none⟩) σ Q := by
  refine ref05_Asm_Missing_ok fun hs => ?_
  unfold f_ref05_Asm_Missing
  simp only [List.mem_cons, List.not_mem_nil, or_false, not_or] at hr0
  have hL := h.lst hs
  have hsl := hL.len
  have hc := hI.ok.count
  have hlen := hI.len
  have hqp : a.parts.length = qs.length := by rw [h.parts, List.length_map]
  refine ⟨_, rfl, s, hL.top, ?_⟩
  by_cases c0 : qs.length = 0
  · rw [if_pos (by omega)]
    have hz := hI.zero.2 (List.eq_nil_of_length_eq_zero (by omega))
    refine hQ _ tag σ (StepS.refl hs) ?_
    have : asMissing a = [] := by unfold asMissing; rw [hz]; rfl
    rw [this]; exact Row.nil 19 3
  rw [if_neg (by omega)]
  obtain ⟨p, hp⟩ := hL.ptr (j := 0) (by omega)
  have hq0 := List.getElem?_eq_getElem (l := qs) (i := 0) (by omega)
  refine ⟨_, rfl, s, hL.top, p, hp, by omega, by omega, (a.count : Int), ?_, ?_⟩
  · exact hL.at hq0 hp (i := 1) rfl
  rw [Int.toNat_natCast]
  refine ⟨⟨by omega, by omega, by omega, by omega⟩, ?_⟩
  refine nw_row (tag := tag) 16 (zv := .bool false) (n := a.count) hs rfl fun A tag1 σ1 st1 r1 => ?_
  have eb : List.replicate a.count (Value.bool false) = bools a.count (fun (i : Nat) => hasAt (qs.take 0) (i : Int)) := by
    unfold bools
    apply List.ext_getElem?
    intro i
    by_cases h : i < a.count <;> simp [List.getElem?_replicate, h, hasAt]
  rw [eb] at r1
  have h1 := h.keep (st1 []) (by simp) (by simp) (by simp)
  have st1' : StepS [0, 16, 19] ro tag σ tag1 σ1 := (st1 []).s (by simp)
  -- the second loop
  have second : ∀ tag2 σ2, StepS [0, 16, 19] ro tag σ tag2 σ2 → Row tag2 σ2 16 4 ⟨some ⟨A, 0, none⟩, a.count, a.count⟩ (bools a.count (fun (i : Nat) => hasAt qs (i : Int))) → j8_ref05_Asm_Missing B ro (a.count : Int) A Q σ2 := by
    intro tag2 σ2 st2 r2
    unfold j8_ref05_Asm_Missing
    suffices ∀ (m j : Nat) (s' : Sl) (tag3 : Nat → Nat) (σ3 : AH), j + m = a.count → StepS [0, 16, 19] ro tag2 σ2 tag3 σ3 → Row tag3 σ3 16 4 ⟨some ⟨A, 0, none⟩, a.count, a.count⟩ (bools a.count (fun (i : Nat) => hasAt qs (i : Int))) → Row tag3 σ3 19 3 s' ((((List.range j).filter fun (i : Nat) => (a.parts.lookup (i : Int)).isNone).map fun (i : Nat) => (i : Int)).map Zt.vI) → lfpD (l11_ref05_Asm_Missing B ro (a.count : Int) A Q) (s', (j : Int)) σ3 from
      this _ 0 _ tag2 σ2 (Nat.zero_add _) (StepS.refl st2.sep) r2 (Row.nil 19 3)
    intro m
    induction m with
    | zero =>
      intro j s' tag3 σ3 hj st3 rb r3
      refine lfpD.intro ?_
      unfold l11_ref05_Asm_Missing
      simp only [Int.toNat_natCast]
      rw [if_neg (by omega)]
      unfold j9_ref05_Asm_Missing
      have : j = a.count := by omega
      subst this
      exact hQ s' tag3 σ3 (st2.trans st3) r3
    | succ m ih =>
      intro j s' tag3 σ3 hj st3 rb r3
      refine lfpD.intro ?_
      generalize hY : lfpD (l11_ref05_Asm_Missing B ro (a.count : Int) A Q) = Y
      unfold l11_ref05_Asm_Missing
      simp only [Int.toNat_natCast]
      rw [if_pos (by omega)]
      have hcell := (rb.read st3.sep).2.2 _ rfl j (Value.bool (hasAt qs (j : Int))) (by unfold bools; rw [List.getElem?_map, List.getElem?_range (by omega)]; rfl)
      refine ⟨_, rfl, by omega, by omega, _, by rw [Nat.mul_one]; exact hcell, ?_⟩
      have hml := mem_look hI h.parts (j : Int)
      have efl : ((List.range (j + 1)).filter fun (i : Nat) => (a.parts.lookup (i : Int)).isNone) = ((List.range j).filter fun (i : Nat) => (a.parts.lookup (i : Int)).isNone) ++ if (a.parts.lookup (j : Int)).isNone then [j] else [] := by
        rw [List.range_succ, List.filter_append]
        congr 1
        by_cases hh : (a.parts.lookup (j : Int)).isNone = true <;> simp [hh]
      have hfl : ((List.range j).filter fun (i : Nat) => (a.parts.lookup (i : Int)).isNone).length ≤ j := by
        have := List.length_filter_le (fun (i : Nat) => (a.parts.lookup (i : Int)).isNone) (List.range j)
        rwa [List.length_range] at this
      unfold j14_ref05_Asm_Missing
      rw [Pa.inc j (by omega)]
      by_cases c : ∃ q ∈ qs, q.1 = (j : Int)
      · rw [if_neg (by simpa using hasAt_iff.2 c), ← hY]
        refine ih (j + 1) s' tag3 σ3 (by omega) st3 rb ?_
        have hn : (a.parts.lookup (j : Int)).isNone = false := by
          have := hml.1 c
          cases e : a.parts.lookup (j : Int) with
          | none => rw [e] at this; cases this
          | some x => rfl
        rw [efl, hn]; simpa using r3
      · rw [if_pos (fun h => c (hasAt_iff.1 h))]
        have hn : (a.parts.lookup (j : Int)).isNone = true := by
          cases e : a.parts.lookup (j : Int) with
          | none => rfl
          | some x => exact absurd (hml.2 (by rw [e]; rfl)) c
        refine nw_cells (tag := tag3) 0 st3.sep fun b tag4 σ4 st4 r4 => ?_
        refine awp_append1 (r3.keep (st4 []) (by simp)) (st4 []).sep u23s ty3 rfl rfl (Row.cell1 r4 (st4 []).sep) rfl (by simp only [List.length_map]; omega) (by decide) fun s2 tag5 σ5 st5 r5 => ?_
        refine ⟨s2, rfl, ?_⟩
        rw [← hY]
        refine ih (j + 1) s2 tag5 σ5 (by omega) (st3.trans (((st4 []).s (by simp)).trans (st5.s (by decide)))) ((rb.keep (st4 []) (by simp)).keep st5 (by decide)) ?_
        rw [efl, hn]; simpa using r5
  suffices ∀ (m j : Nat) (σ2 : AH), j + m = qs.length → StepS [0, 16, 19] ro tag1 σ1 tag1 σ2 → Row tag1 σ2 16 4 ⟨some ⟨A, 0, none⟩, a.count, a.count⟩ (bools a.count (fun (i : Nat) => hasAt (qs.take j) (i : Int))) → lfpD (l20_ref05_Asm_Missing B ro (some ⟨T, 0, none⟩) (a.count : Int) A Q) (j : Int) σ2 from
    this _ 0 σ1 (Nat.zero_add _) (StepS.refl (st1 []).sep) r1
  intro m
  induction m with
  | zero =>
    intro j σ2 hj st2 r2
    have hL2 := (h1.keepS st2 (by rw [Nat.mod_eq_of_lt hr]; simp; omega) (by decide)).lst st2.sep
    refine lfpD.intro ?_
    unfold l20_ref05_Asm_Missing
    refine ⟨_, rfl, s, hL2.top, ?_⟩
    rw [if_neg (by omega)]
    rw [List.take_of_length_le (by omega)] at r2
    exact second tag1 σ2 (st1'.trans st2) r2
  | succ m ih =>
    intro j σ2 hj st2 r2
    have hL2 := (h1.keepS st2 (by rw [Nat.mod_eq_of_lt hr]; simp; omega) (by decide)).lst st2.sep
    have hjl : j < qs.length := by omega
    have hq := List.getElem?_eq_getElem hjl
    obtain ⟨n, hn1, hn2⟩ := hI.key (qs[j].1, qs[j].2.2) (by rw [h.parts]; exact List.mem_map.2 ⟨qs[j], List.getElem_mem hjl, rfl⟩)
    simp only at hn1
    refine lfpD.intro ?_
    generalize hY : lfpD (l20_ref05_Asm_Missing B ro (some ⟨T, 0, none⟩) (a.count : Int) A Q) = Y
    unfold l20_ref05_Asm_Missing
    simp only [Int.toNat_natCast]
    refine ⟨_, rfl, s, hL2.top, ?_⟩
    rw [if_pos (by omega)]
    refine ⟨_, rfl, s, hL2.top, p, hp, by omega, by omega, qs[j].1, hL2.at hq hp (i := 2) rfl, ?_⟩
    rw [hn1]
    refine ⟨_, rfl, by omega, by omega, ?_⟩
    rw [Int.toNat_natCast]
    refine r2.st (v := .bool true) st2.sep rfl (by unfold bools; simpa using hn2) rfl fun σ3 st3 r3 => ?_
    rw [bools_set] at r3
    rw [Pa.inc j (by omega), ← hY]
    refine ih (j + 1) σ3 (by omega) (st2.trans (st3.s (by decide))) ?_
    have : (fun (i : Nat) => if i = n then true else hasAt (qs.take j) (i : Int)) = fun (i : Nat) => hasAt (qs.take (j + 1)) (i : Int) := by
      funext i
      have ht : qs.take (j + 1) = qs.take j ++ [qs[j]] := by rw [List.take_add_one, hq]; rfl
      rw [ht]
      by_cases c : i = n
      · rw [if_pos c]
        exact (hasAt_iff.2 ⟨qs[j], List.mem_append_right _ (List.mem_singleton.2 rfl), by rw [hn1, c]⟩).symm
      · rw [if_neg c]
        unfold hasAt
        rw [List.any_append, List.any_cons, List.any_nil, Bool.or_false, hn1, decide_eq_false (by omega), Bool.or_false]
    rw [← this]; exact r3
end Go.Proofs.YtfobjidchipdaaaGreatDoor.Sn

/- The document's chunks put together: Done. -/
namespace Go.Proofs.YtfobjidchipdaaaGreatDoor.SL
open Go
variable {ro σ σ' : AH} {tag tag' : Nat → Nat}
theorem Row.cellsAt {r : Nat} {e : TypeId} {b n c : Nat} {l : List Value} (h : Row tag σ r e ⟨some ⟨b, 0, none⟩, n, c⟩ l) (hs : Sep ro σ) : SL.cellsAt ro σ ⟨b, 0, none⟩ 0 l := by
  rcases Nat.eq_zero_or_pos l.length with h0 | h0
  · rw [List.eq_nil_of_length_eq_zero h0]; trivial
  · obtain ⟨p, hp, hg⟩ := h.ptr hs h0
    cases hp
    exact cellsAt_of 0 fun i v hv => by rw [Nat.zero_add]; have := hg i v hv; rwa [Nat.mul_one] at this
theorem Row.readW1 {r w : Nat} {e : TypeId} {b n c : Nat} {l : List Value} (h : Row tag σ r e ⟨some ⟨b, 0, none⟩, n, c⟩ l) (hs : Sep ro σ) (hw : l.length = w) (h0 : 0 < w) : SL.ReadW ro σ w ⟨some ⟨b, 0, none⟩, 1, 1⟩ [l] := by
  obtain ⟨p, hp, hg⟩ := h.ptr hs (by omega)
  cases hp
  refine ⟨rfl, (fun h => by cases h), fun x hx => by rw [List.mem_singleton.1 hx]; exact hw, fun p hp i v hv => ?_⟩
  cases hp
  have := hg i v (by simpa using hv)
  rwa [Nat.mul_one] at this

theorem RowW.lendR {L : List Nat} {r : Nat} {e : TypeId} {w : Nat} {s : Sl} {l : List (List Value)} {τ : AH} (h : RowW tag σ r e w s l) (hs : Sep ro σ) (hr : r ∈ L) {j : Nat} {x : List Value} (hj : l[j]? = some x) :
    ∃ b, s.a = some ⟨b, 0, none⟩ ∧ ∀ i v, x[i]? = some v → acell (join ro (inR tag L σ)) τ ⟨b, j * w + i, none⟩ = some v := by
  rcases h with ⟨_, rfl⟩ | ⟨b, cs, ha, ht, hb, hln, hc, hle, hw, hg⟩
  · cases hj
  · refine ⟨b, ha, fun i v hv => ?_⟩
    have hx : x.length = w := hw x (List.mem_of_getElem? hj)
    have hi : i < w := by
      rcases Nat.lt_or_ge i w with h | h
      · exact h
      · rw [List.getElem?_eq_none (by omega)] at hv; cases hv
    have := hg (j * w + i) v (by rw [flat_get hw hj hi]; exact hv)
    have hj : join ro (inR tag L σ) b = some (.cells cs e) := by unfold join inR; rw [hs b _ hb]; simp [ht, hr, hb]
    unfold acell rd
    simp only [hj, cellOf]
    exact this
end Go.Proofs.YtfobjidchipdaaaGreatDoor.SL
namespace Go.Proofs.YtfobjidchipdaaaGreatDoor.Sn
open Go Go.Proofs.YtfobjidchipdaaaGreatDoor.SL Go.Proofs.YtfobjidchipdaaaGreatDoor.G Go.Proofs.YtfobjidchipdaaaGreatDoor.Pa Go.Proofs.YtfobjidchipdaaaGreatDoor.Wi
set_option linter.unusedSimpArgs false
set_option linter.unusedVariables false
set_option maxRecDepth 100000
variable {B : World} {ro σ σ' : AH} {tag tag' : Nat → Nat}
theorem RAt.lend {r T : Nat} {a : As} {s : Sl} {qs : Qs} {τ : AH} (h : RAt tag σ r T a s qs) (hs : SL.Sep ro σ) : Lst (join ro (inR tag [r, r + 64] σ)) τ T a s qs := by
  refine ⟨?_, by rw [h.row.len, List.length_map], fun j q hq => ?_⟩
  · have := h.top.lendR (L := [r, r + 64]) (τ := τ) (p := ⟨T, 0, none⟩) (i := 0) hs (by simp) rfl rfl
    rwa [add_zero] at this
  · exact h.row.lendR hs (by simp) (by rw [List.getElem?_map, hq]; rfl)
theorem qmem_look {l : List (Int × Str)} (hn : (l.map (·.1)).Nodup) {k : Int} {v : Str} (h : (k, v) ∈ l) : l.lookup k = some v := by
  induction l with
  | nil => cases h
  | cons p l ih =>
    rw [List.map_cons, List.nodup_cons] at hn
    rw [List.lookup_cons]
    rcases List.mem_cons.1 h with h | h
    · subst h; simp
    · have hne : k ≠ p.1 := fun e => hn.1 (List.mem_map.2 ⟨(k, v), h, e⟩)
      rw [show (k == p.1) = false by simpa using hne]
      exact ih hn.2 h
/-- all are there -/
theorem AsIn.full {a : As} (h : AsIn a) (hf : a.count ≤ a.parts.length) {i : Nat} (hi : i < a.count) : (i : Int) ∈ a.parts.map (·.1) := by
  refine Classical.byContradiction fun hn => ?_
  have := sub_len (L := ((List.range a.count).map fun (i : Nat) => (i : Int)).erase (i : Int)) h.nd fun x hx => by
    obtain ⟨p, hp, rfl⟩ := List.mem_map.1 hx
    obtain ⟨j, e, hj⟩ := h.key p hp
    refine (List.mem_erase_of_ne fun e2 => hn ?_).2 (by rw [e]; exact List.mem_map.2 ⟨j, List.mem_range.2 hj, rfl⟩)
    rw [← e2]; exact hx
  rw [List.length_erase_of_mem (List.mem_map.2 ⟨i, List.mem_range.2 hi, rfl⟩), List.length_map, List.length_map, List.length_range] at this
  omega
theorem rdone_ok {r T : Nat} {a : As} {s : Sl} {qs : Qs} {Q : Int → Sl → Bool → AH → Prop} (hr : r < 64) (hr0 : r ∉ [0, 6, 18]) (h : RAt tag σ r T a s qs) (hI : AsIn a)
    (hno : (asDone a).2.2 = false → ∀ tag' σ', StepS [0, 18] ro tag σ tag' σ' → Q 0 ⟨none, 0, 0⟩ false σ')
    (hyes : (asDone a).2.2 = true → ∀ s' tag' σ', StepS [0, 18] ro tag σ tag' σ' → Row tag' σ' 18 5 s' ((asData a).map Zt.vU) → Q (a.number : Nat) s' true σ') : c_ref05_Asm_Done B ro (some ⟨T, 0, none⟩) σ Q := by
  refine ref05_Asm_Done_ok fun hs => ?_
  unfold f_ref05_Asm_Done
  simp only [List.mem_cons, List.not_mem_nil, or_false, not_or] at hr0
  have hmod : r % 64 = r := Nat.mod_eq_of_lt hr
  have hL := h.lst hs
  have hsl := hL.len
  have hc := hI.ok.count
  have hlen := hI.len
  have hqp : a.parts.length = qs.length := by rw [h.parts, List.length_map]
  have noQ : a.count = 0 ∨ a.parts.length < a.count → ∀ x, x = true → j1_ref05_Asm_Done B ro (some ⟨T, 0, none⟩) Q x σ := fun hn x hx => by
    unfold j1_ref05_Asm_Done
    rw [if_pos hx]
    exact hno (by unfold asDone; rw [if_pos hn]) tag σ (StepS.refl hs)
  refine ⟨_, rfl, s, hL.top, ?_⟩
  by_cases c0 : qs.length = 0
  · rw [if_pos (by omega)]
    exact noQ (.inl (hI.zero.2 (List.eq_nil_of_length_eq_zero (by omega)))) true rfl
  rw [if_neg (by omega)]
  have hcz : a.count ≠ 0 := fun e => by
    have := hI.zero.1 e
    rw [this] at hqp; simp at hqp; omega
  obtain ⟨p, hp⟩ := hL.ptr (j := 0) (by omega)
  have hq0 := List.getElem?_eq_getElem (l := qs) (i := 0) (by omega)
  refine ⟨_, rfl, _, rfl, s, hL.top, s, hL.top, p, hp, by omega, by omega, (a.count : Int), hL.at hq0 hp (i := 1) rfl, ?_⟩
  by_cases c1 : qs.length < a.count
  · exact noQ (.inr (by omega)) _ (decide_eq_true (by omega))
  rw [decide_eq_false (by omega)]
  unfold j1_ref05_Asm_Done
  rw [if_neg (by simp)]
  have hq : qs.length = a.count := by omega
  have eyes : ¬ (a.count = 0 ∨ a.parts.length < a.count) := by omega
  refine nw_cells (tag := tag) 18 hs fun A tag1 σ1 st1 r1 => ?_
  have part : ∀ j, j < a.count → ∃ (i : Nat) (q : Int × Sl × Str), qs[i]? = some q ∧ q.1 = (j : Int) ∧ a.parts.lookup (j : Int) = some q.2.2 ∧ q.2.2.length ≤ 1048576 := fun j hj => by
    have hm := hI.full (by omega) hj
    obtain ⟨w, hw, e⟩ := List.mem_map.1 hm
    rw [h.parts] at hw
    obtain ⟨q, hq, e2⟩ := List.mem_map.1 hw
    obtain ⟨i, hi, e3⟩ := List.mem_iff_getElem.1 hq
    have ek : q.1 = (j : Int) := by rw [← e, ← e2]
    have hmem : ((j : Int), q.2.2) ∈ a.parts := by rw [h.parts, ← ek]; exact List.mem_map.2 ⟨q, hq, rfl⟩
    exact ⟨i, q, by rw [List.getElem?_eq_getElem hi, e3], ek, qmem_look hI.nd hmem, hI.ok.part _ hmem⟩
  have bound : ∀ j, j ≤ a.count → ((List.range j).flatMap fun (i : Nat) => (a.parts.lookup (i : Int)).getD []).length ≤ j * 1048576 := by
    intro j
    induction j with
    | zero => intro _; simp
    | succ j ih =>
      intro hj
      obtain ⟨_, q, _, _, e, hl⟩ := part j (by omega)
      have := ih (by omega)
      rw [List.range_succ, List.flatMap_append, List.length_append]
      simp only [List.flatMap_cons, List.flatMap_nil, List.append_nil, e, Option.getD_some]
      omega
  have bound2 : (asData a).length ≤ a.count * 1048576 := bound _ (Nat.le_refl _)
  have hmul : a.count * 1048576 ≤ 1048576 * 1048576 := Nat.mul_le_mul_right _ hc
  -- the last part
  have fin : ∀ s' tag2 σ2, StepS [0, 18] ro tag σ tag2 σ2 → Row tag2 σ2 18 5 s' ((asData a).map Zt.vU) → j4_ref05_Asm_Done B ro (some ⟨T, 0, none⟩) Q s' σ2 := by
    intro s' tag2 σ2 st2 r2
    have h2 := h.keepS st2 (by rw [hmod]; simp; omega) (by decide)
    have hs2 := st2.sep
    have hsl2 : s'.len = (asData a).length := by rw [r2.len, List.length_map]
    have bad : ∀ x, x = true → ¬ ((asData a).length = a.length ∧ crc (asData a) = a.sum) → ∀ tag' σ', StepS [0, 18] ro tag σ tag' σ' → j6_ref05_Asm_Done B ro (some ⟨T, 0, none⟩) s' Q x σ' := fun x hx hn tag' σ' st => by
      unfold j6_ref05_Asm_Done
      rw [if_pos hx]
      exact hno (by unfold asDone; rw [if_neg eyes, if_neg hn]) _ _ st
    unfold j4_ref05_Asm_Done
    refine lent_roles tag2 [r, r + 64] ?_
    have hl : ∀ τ, Lst (join ro (inR tag2 [r, r + 64] σ2)) τ T a s qs := fun τ => h2.lend hs2
    refine ⟨_, rfl, s, (hl _).top, p, hp, by omega, by omega, (a.length : Int), (hl _).at hq0 hp (i := 3) rfl, ?_⟩
    have jb : ∀ {K : AH → Prop}, K σ2 → Disj (inR tag2 [r, r + 64] σ2) (outR tag2 [r, r + 64] σ2) → K (join (inR tag2 [r, r + 64] σ2) (outR tag2 [r, r + 64] σ2)) := fun hk _ => by rw [(join_lent tag2 _ σ2).1]; exact hk
    by_cases d1 : (asData a).length = a.length
    rotate_left
    · rw [if_pos (by omega)]
      intro _
      rw [(join_lent tag2 _ σ2).1]
      exact bad true rfl (fun e => d1 e.1) tag2 σ2 st2
    rw [if_neg (by omega)]
    refine ⟨_, rfl, s, (hl _).top, p, hp, by omega, by omega, (a.sum : Int), (hl _).at hq0 hp (i := 4) rfl, ?_⟩
    refine Zt.rsum_ok (l := asData a) ((r2.outR (L := [r, r + 64]) (by simp; omega)).read hs2.lentR) (by omega) ?_
    intro _
    rw [(join_lent tag2 _ σ2).1]
    by_cases d2 : crc (asData a) = a.sum
    rotate_left
    · rw [decide_eq_false (show ¬ ((crc (asData a) : Nat) : Int) = (a.sum : Int) by omega)]
      exact bad _ rfl (fun e => d2 e.2) tag2 σ2 st2
    · rw [decide_eq_true (show ((crc (asData a) : Nat) : Int) = (a.sum : Int) by omega)]
      unfold j6_ref05_Asm_Done
      rw [if_neg (by simp)]
      have hL2 := h2.lst hs2
      refine ⟨_, rfl, s, hL2.top, p, hp, by omega, by omega, (a.number : Int), hL2.at hq0 hp (i := 0) rfl, ?_⟩
      exact hyes (by unfold asDone; rw [if_neg eyes, if_pos ⟨d1, d2⟩]) s' tag2 σ2 st2 r2
  suffices ∀ (m j : Nat) (s' : Sl) (tag2 : Nat → Nat) (σ2 : AH), j + m = a.count → StepS [0, 18] ro tag1 σ1 tag2 σ2 → Row tag2 σ2 18 5 s' (((List.range j).flatMap fun (i : Nat) => (a.parts.lookup (i : Int)).getD []).map Zt.vU) → lfpD (l21_ref05_Asm_Done B ro (some ⟨T, 0, none⟩) Q) (s', (j : Int)) σ2 from
    this _ 0 _ tag1 σ1 (Nat.zero_add _) (StepS.refl (st1 []).sep) r1
  have st1' : StepS [0, 18] ro tag σ tag1 σ1 := (st1 []).s (by simp)
  intro m
  induction m with
  | zero =>
    intro j s' tag2 σ2 hj st2 r2
    have h2 := h.keepS (st1'.trans st2) (by rw [hmod]; simp; omega) (by decide)
    have hL2 := h2.lst st2.sep
    refine lfpD.intro ?_
    unfold l21_ref05_Asm_Done
    simp only
    refine ⟨_, rfl, s, hL2.top, ?_⟩
    rw [if_neg (by omega)]
    have : j = a.count := by omega
    subst this
    exact fin s' tag2 σ2 (st1'.trans st2) r2
  | succ m ih =>
    intro j s' tag2 σ2 hj st2 r2
    have h2 := h.keepS (st1'.trans st2) (by rw [hmod]; simp; omega) (by decide)
    have hs2 := st2.sep
    have hL2 := h2.lst hs2
    obtain ⟨i, q, hqi, hqk, hlk, hql⟩ := part j (by omega)
    have hb := bound j (by omega)
    refine lfpD.intro ?_
    generalize hY : lfpD (l21_ref05_Asm_Done B ro (some ⟨T, 0, none⟩) Q) = Y
    unfold l21_ref05_Asm_Done
    simp only
    refine ⟨_, rfl, s, hL2.top, ?_⟩
    rw [if_pos (by omega)]
    refine lent_roles tag2 [r, r + 64] ?_
    have hl : ∀ τ, Lst (join ro (inR tag2 [r, r + 64] σ2)) τ T a s qs := fun τ => h2.lend hs2
    refine ⟨_, rfl, s, (hl _).top, ?_⟩
    have go : ∀ (i : Nat) (q' : Int × Sl × Str), qs[i]? = some q' → q'.1 = (j : Int) →
        ∃ p47_29 : Addr, s.a = some p47_29 ∧ (0 : Int) ≤ (i : Int) ∧ (i : Int) < (s.len : Int) ∧
        ∃ (x49_30 : Sl), acell (join ro (inR tag2 [r, r + 64] σ2)) (outR tag2 [r, r + 64] σ2) ((p47_29.add (Int.toNat (i : Int) * 6)).add 5) = some (Sl.v x49_30) ∧
        awp Tryz.prog (join ro (inR tag2 [r, r + 64] σ2)) (Builtin.append_ #[22, 22] 22 #[Sl.v s', Sl.v x49_30]) (fun v σ => ∃ (x50_31 : Sl), v = Sl.v x50_31 ∧
          (Disj (inR tag2 [r, r + 64] σ2) σ → (fun σ => Y (x50_31, IntKind.i64.wrap ((j : Int) + 1)) σ) (join (inR tag2 [r, r + 64] σ2) σ))) (outR tag2 [r, r + 64] σ2) := by
      intro i q' hqi' hqk'
      have hi : i < qs.length := by
        rcases Nat.lt_or_ge i qs.length with h | h
        · exact h
        · rw [List.getElem?_eq_none h] at hqi'; cases hqi'
      have hq'm : q' ∈ qs := List.mem_of_getElem? hqi'
      have hlk' : a.parts.lookup (j : Int) = some q'.2.2 := qmem_look hI.nd (by rw [h.parts, ← hqk']; exact List.mem_map.2 ⟨q', hq'm, rfl⟩)
      have hql' : q'.2.2.length ≤ 1048576 := by
        rw [hlk] at hlk'
        rw [← Option.some.inj hlk']; exact hql
      refine ⟨p, hp, by omega, by omega, q'.2.1, (hl _).at hqi' hp (i := 5) rfl, ?_⟩
      have hdr := ((h2.data q' hq'm).outR (L := [r, r + 64]) (by simp; omega)).read hs2.lentR
      refine awp_appendN (r2.outR (L := [r, r + 64]) (by simp; omega)) hs2.lentR hdr Zt.u30 ty5 rfl (by simp [storable]) (by rw [List.length_map, List.length_map]; omega) (by decide) fun s2 tag3 σ3 st3 r3 => ?_
      refine ⟨s2, rfl, ?_⟩
      intro hdis
      have st3 := st3 [18] (.inr (by simp))
      have stB := st3.backR hs2 hdis
      have r4 := r3.backR hdis
      rw [Pa.inc j (by omega), ← hY]
      refine ih (j + 1) s2 _ _ (by omega) (st2.trans (stB.s (by decide))) ?_
      rw [List.range_succ, List.flatMap_append]
      simp only [List.flatMap_cons, List.flatMap_nil, List.append_nil, hlk', Option.getD_some, List.map_append]
      exact r4
    refine find_ok (hl _) (by omega) (fun hn => absurd hqk (hn q (List.mem_of_getElem? hqi))) fun i q' h1 h2 => go i q' h1 h2
end Go.Proofs.YtfobjidchipdaaaGreatDoor.Sn

/- The document's chunks put together: Add. -/
namespace Go.Proofs.YtfobjidchipdaaaGreatDoor.Sn
open Go Go.Proofs.YtfobjidchipdaaaGreatDoor.SL Go.Proofs.YtfobjidchipdaaaGreatDoor.G Go.Proofs.YtfobjidchipdaaaGreatDoor.Pa Go.Proofs.YtfobjidchipdaaaGreatDoor.Wi
set_option linter.unusedSimpArgs false
set_option linter.unusedVariables false
set_option maxRecDepth 100000
variable {B : World} {ro σ σ' : AH} {tag tag' : Nat → Nat}
theorem rdis_keep {q X : Nat} {s : Sl} {l : Str} {rd : Rd} {R : List Nat} (h : Zt.RdIs tag σ q X s l rd) (k : Step R ro tag σ tag' σ') (hq : q ∉ R) : Zt.RdIs tag' σ' q X s l rd := by
  obtain ⟨p, h1, h2, h3⟩ := h
  exact ⟨p, h1, h2, h3.keep k hq⟩
theorem qput_same {l : List (Int × Str)} (hn : (l.map (·.1)).Nodup) {k : Int} {v : Str} (h : l.lookup k = some v) : qput l k v = l := by
  induction l with
  | nil => cases h
  | cons p l ih =>
    obtain ⟨k', v'⟩ := p
    rw [List.map_cons, List.nodup_cons] at hn
    rw [List.lookup_cons] at h
    unfold qput
    by_cases e : k = k'
    · subst e
      simp at h
      rw [if_pos rfl, h]
    · rw [show (k == k') = false by simpa using e] at h
      rw [if_neg e, ih hn.2 h]
theorem qput_new {l : List (Int × Str)} {k : Int} {v : Str} (h : ∀ p ∈ l, p.1 ≠ k) : qput l k v = l ++ [(k, v)] := by
  induction l with
  | nil => rfl
  | cons p l ih =>
    obtain ⟨k', v'⟩ := p
    unfold qput
    rw [if_neg (fun e => h _ List.mem_cons_self e.symm), ih fun q hq => h q (List.mem_cons_of_mem _ hq)]; rfl
theorem look_none {l : List (Int × Str)} {k : Int} (h : ∀ p ∈ l, p.1 ≠ k) : l.lookup k = none := by
  induction l with
  | nil => rfl
  | cons p l ih =>
    rw [List.lookup_cons, show (k == p.1) = false by simpa using (h p List.mem_cons_self).symm]
    exact ih fun q hq => h q (List.mem_cons_of_mem _ hq)
/-- what Add makes, as the document says it -/
theorem AsIn.add {a : As} {b : Str} (h : AsIn a) : AsIn (asAdd1 a b).1 := by
  have hok := AsOk.add (b := b) h.ok
  unfold asAdd1 at hok ⊢
  by_cases c1 : ckOk b = true
  rotate_left
  · rw [if_neg c1]; exact h
  rw [if_pos c1] at hok ⊢
  obtain ⟨k1, k2, k3, k4, k5⟩ := ckOk_fits c1
  by_cases c0 : a.count = 0
  · have hp := h.zero.1 c0
    have hf : (a.begin (ckOf b)).fits (ckOf b) = true := by
      unfold As.begin As.fits; rw [if_pos c0]; simp [hp]
    rw [if_pos hf] at hok ⊢
    have e1 : (a.begin (ckOf b)).parts = [] := by unfold As.begin; rw [if_pos c0]; exact hp
    have e2 : (a.begin (ckOf b)).count = (ckOf b).count := by unfold As.begin; rw [if_pos c0]
    rw [e1]
    refine ⟨by rw [e1] at hok; exact hok, ⟨fun e => ?_, fun e => by cases e⟩, fun p hp => ?_, by simp [qput]⟩
    · simp only [e2] at e; omega
    · rw [List.mem_singleton.1 hp]; exact ⟨_, rfl, by simp only [e2]; exact k3⟩
  · have hb : a.begin (ckOf b) = a := by unfold As.begin; rw [if_neg c0]
    rw [hb] at hok ⊢
    by_cases hf : a.fits (ckOf b) = true
    · rw [if_pos hf] at hok ⊢
      have hcnt : (ckOf b).count = a.count := by
        unfold As.fits at hf
        simp only [Bool.and_eq_true, decide_eq_true_eq] at hf
        exact hf.2.1
      refine ⟨hok, ⟨fun e => absurd e c0, fun e => ?_⟩, fun p hp => ?_, ?_⟩
      · simp only at e
        rcases qput_keys a.parts ((ckOf b).at' : Int) (ckOf b).part with ⟨hk, hm⟩ | ⟨hk, hm⟩
        · rw [e] at hk; rw [← hk] at hm; cases hm
        · rw [e] at hk; simp at hk
      · rcases qmem_put hp with rfl | hp
        · exact ⟨_, rfl, by simp only; omega⟩
        · exact h.key p hp
      · show ((qput a.parts ((ckOf b).at' : Int) (ckOf b).part).map (·.1)).Nodup
        rcases qput_keys a.parts ((ckOf b).at' : Int) (ckOf b).part with ⟨hk, hm⟩ | ⟨hk, hm⟩
        · rw [hk]; exact h.nd
        · rw [hk, List.nodup_append]
          exact ⟨h.nd, by simp, fun x hx y hy e => hm (by rw [List.mem_singleton.1 hy] at e; rw [← e]; exact hx)⟩
    · rw [if_neg hf]; exact h
/-- a reader's errors -/
theorem rdErr {q X : Nat} {s : Sl} {l : Str} {rd : Rd} (h : Zt.RdIs tag σ q X s l rd) (hs : SL.Sep ro σ) : acell ro σ ((⟨X, 0, none⟩ : Addr).add 2) = some (.int .i64 rd.err) := by
  obtain ⟨p, h1, h2, h3⟩ := h
  obtain ⟨pp, hpp, hg⟩ := h3.ptr hs (by simp)
  cases hpp
  exact hg 2 _ rfl
theorem radd1_ok {r T X5 : Nat} {a : As} {s c : Sl} {qs : Qs} {b : Str} {Q : Int → AH → Prop} (hr : r < 64) (hr0 : r ∉ [0, 5, 6, 7, 9, 31]) (h : RAt tag σ r T a s qs) (hI : AsIn a)
    (hx : Row tag σ 5 22 ⟨some ⟨X5, 0, none⟩, 1, 1⟩ [Sl.v c]) (hd : SL.Read ro (fun _ => none) c (b.map Zt.vU)) (hc : c.len ≤ c.cap) (hl : b.length ≤ 140737488355328)
    (hQ : ∀ s' qs' tag' σ', StepS [0, 7, 9, 31, r] ro tag σ tag' σ' → RAt tag' σ' r T (asAdd1 a b).1 s' qs' → Q (asAdd1 a b).2 σ') : c_ref05_Asm_Add B ro (some ⟨T, 0, none⟩) ⟨some ⟨X5, 0, none⟩, 1, 1⟩ σ Q := by
  refine ref05_Asm_Add_ok fun hs => ?_
  unfold f_ref05_Asm_Add
  simp only [List.mem_cons, List.not_mem_nil, or_false, not_or] at hr0
  have hmod : r % 64 = r := Nat.mod_eq_of_lt hr
  have hlen := hI.len
  have hcnt := hI.ok.count
  have hqp : a.parts.length = qs.length := by rw [h.parts, List.length_map]
  refine lfpD.intro ?_
  generalize hY : lfpD (l2_ref05_Asm_Add B ro (some ⟨T, 0, none⟩) ⟨some ⟨X5, 0, none⟩, 1, 1⟩ Q) = Y
  have hnext : ∀ σ', Q 0 σ' → j4_ref05_Asm_Add B ro (some ⟨T, 0, none⟩) ⟨some ⟨X5, 0, none⟩, 1, 1⟩ 0 Q Y σ' := fun σ' hq => by
    unfold j4_ref05_Asm_Add
    rw [← hY, show IntKind.i64.wrap (0 + 1) = 1 from by decide]
    refine lfpD.intro ?_
    unfold l2_ref05_Asm_Add
    rw [if_neg (by simp)]
    exact hq
  unfold l2_ref05_Asm_Add
  rw [if_pos (by simp)]
  generalize hxs : (⟨some ⟨X5, 0, none⟩, 1, 1⟩ : Sl) = xs at *
  refine ⟨⟨X5, 0, none⟩, by rw [← hxs], by decide, by rw [← hxs]; simp, c, ?_, ?_⟩
  · rw [← hxs] at hx; exact (hx.ptr hs (by simp)).elim fun p hp => by obtain ⟨hp, hg⟩ := hp; cases hp; exact hg 0 _ rfl
  refine nw_cells (tag := tag) 31 hs fun X tag1 σ1 st1 rX => ?_
  refine nw_cells (tag := tag1) 7 (st1 []).sep fun C tag3 σ3 st3 rC => ?_
  have hs3 := (st3 []).sep
  refine rC.stAll hs3 rfl (by simp [storable, Sl.v]) fun σ4 st4 r0 => ?_
  have r0 : Row tag3 σ4 7 125 ⟨some ⟨C, 0, none⟩, 6, 6⟩ [Zt.vI 0, Zt.vI 0, Zt.vI 0, Zt.vI 0, Zt.vI 0, Sl.v ⟨none, 0, 0⟩] := r0
  have d0 : Zt.RdIs tag3 σ4 31 X c b ⟨b, 0⟩ := ⟨0, Nat.zero_le _, rfl, (rX.keep (st3 []) (by simp)).keep st4 (by decide)⟩
  have s04 : StepS [0, 7, 9, 31, r] ro tag σ tag3 σ4 := ((st1 []).s (by simp)).trans (((st3 []).s (by simp)).trans (st4.s (by simp)))
  refine lfpD.intro ?_
  unfold l70_ref05_Asm_Add
  rw [if_pos (by decide)]
  refine Zt.rdnum_ok d0 hd hl fun σa0 sa0 e0 => ?_
  have e0 : Zt.RdIs tag3 σa0 31 X c b (x1 b).2 := e0
  refine ⟨⟨by decide, by decide⟩, ?_⟩
  refine (r0.keep sa0 (by decide)).st (i := 0) sa0.sep rfl (by simp) rfl fun σb0 sb0 r1 => ?_
  have r1 : Row tag3 σb0 7 125 ⟨some ⟨C, 0, none⟩, 6, 6⟩ [Zt.vI ((x1 b).1 : Nat), Zt.vI 0, Zt.vI 0, Zt.vI 0, Zt.vI 0, Sl.v ⟨none, 0, 0⟩] := r1
  have d1 : Zt.RdIs tag3 σb0 31 X c b (x1 b).2 := rdis_keep e0 sb0 (by decide)
  have t1 : Step [7, 31] ro tag3 σ4 tag3 σb0 := ((sa0.mono (by decide)).trans (sb0.mono (by decide)))
  show lfpD (l70_ref05_Asm_Add B ro (some ⟨T, 0, none⟩) xs 0 C X Q Y) (IntKind.i64.wrap (0 + 1)) σb0
  rw [show IntKind.i64.wrap (0 + 1) = 1 from by decide]
  refine lfpD.intro ?_
  unfold l70_ref05_Asm_Add
  rw [if_pos (by decide)]
  refine Zt.rdnum_ok d1 hd hl fun σa1 sa1 e1 => ?_
  have e1 : Zt.RdIs tag3 σa1 31 X c b (x2 b).2 := e1
  refine ⟨⟨by decide, by decide⟩, ?_⟩
  refine (r1.keep sa1 (by decide)).st (i := 1) sa1.sep rfl (by simp) rfl fun σb1 sb1 r2 => ?_
  have r2 : Row tag3 σb1 7 125 ⟨some ⟨C, 0, none⟩, 6, 6⟩ [Zt.vI ((x1 b).1 : Nat), Zt.vI ((x2 b).1 : Nat), Zt.vI 0, Zt.vI 0, Zt.vI 0, Sl.v ⟨none, 0, 0⟩] := r2
  have d2 : Zt.RdIs tag3 σb1 31 X c b (x2 b).2 := rdis_keep e1 sb1 (by decide)
  have t2 : Step [7, 31] ro tag3 σ4 tag3 σb1 := t1.trans ((sa1.mono (by decide)).trans (sb1.mono (by decide)))
  show lfpD (l70_ref05_Asm_Add B ro (some ⟨T, 0, none⟩) xs 0 C X Q Y) (IntKind.i64.wrap (1 + 1)) σb1
  rw [show IntKind.i64.wrap (1 + 1) = 2 from by decide]
  refine lfpD.intro ?_
  unfold l70_ref05_Asm_Add
  rw [if_pos (by decide)]
  refine Zt.rdnum_ok d2 hd hl fun σa2 sa2 e2 => ?_
  have e2 : Zt.RdIs tag3 σa2 31 X c b (x3 b).2 := e2
  refine ⟨⟨by decide, by decide⟩, ?_⟩
  refine (r2.keep sa2 (by decide)).st (i := 2) sa2.sep rfl (by simp) rfl fun σb2 sb2 r3 => ?_
  have r3 : Row tag3 σb2 7 125 ⟨some ⟨C, 0, none⟩, 6, 6⟩ [Zt.vI ((x1 b).1 : Nat), Zt.vI ((x2 b).1 : Nat), Zt.vI ((x3 b).1 : Nat), Zt.vI 0, Zt.vI 0, Sl.v ⟨none, 0, 0⟩] := r3
  have d3 : Zt.RdIs tag3 σb2 31 X c b (x3 b).2 := rdis_keep e2 sb2 (by decide)
  have t3 : Step [7, 31] ro tag3 σ4 tag3 σb2 := t2.trans ((sa2.mono (by decide)).trans (sb2.mono (by decide)))
  show lfpD (l70_ref05_Asm_Add B ro (some ⟨T, 0, none⟩) xs 0 C X Q Y) (IntKind.i64.wrap (2 + 1)) σb2
  rw [show IntKind.i64.wrap (2 + 1) = 3 from by decide]
  refine lfpD.intro ?_
  unfold l70_ref05_Asm_Add
  rw [if_pos (by decide)]
  refine Zt.rdnum_ok d3 hd hl fun σa3 sa3 e3 => ?_
  have e3 : Zt.RdIs tag3 σa3 31 X c b (x4 b).2 := e3
  refine ⟨⟨by decide, by decide⟩, ?_⟩
  refine (r3.keep sa3 (by decide)).st (i := 3) sa3.sep rfl (by simp) rfl fun σb3 sb3 r4 => ?_
  have r4 : Row tag3 σb3 7 125 ⟨some ⟨C, 0, none⟩, 6, 6⟩ [Zt.vI ((x1 b).1 : Nat), Zt.vI ((x2 b).1 : Nat), Zt.vI ((x3 b).1 : Nat), Zt.vI ((x4 b).1 : Nat), Zt.vI 0, Sl.v ⟨none, 0, 0⟩] := r4
  have d4 : Zt.RdIs tag3 σb3 31 X c b (x4 b).2 := rdis_keep e3 sb3 (by decide)
  have t4 : Step [7, 31] ro tag3 σ4 tag3 σb3 := t3.trans ((sa3.mono (by decide)).trans (sb3.mono (by decide)))
  show lfpD (l70_ref05_Asm_Add B ro (some ⟨T, 0, none⟩) xs 0 C X Q Y) (IntKind.i64.wrap (3 + 1)) σb3
  rw [show IntKind.i64.wrap (3 + 1) = 4 from by decide]
  refine lfpD.intro ?_
  unfold l70_ref05_Asm_Add
  rw [if_pos (by decide)]
  refine Zt.rdnum_ok d4 hd hl fun σa4 sa4 e4 => ?_
  have e4 : Zt.RdIs tag3 σa4 31 X c b (x5 b).2 := e4
  refine ⟨⟨by decide, by decide⟩, ?_⟩
  refine (r4.keep sa4 (by decide)).st (i := 4) sa4.sep rfl (by simp) rfl fun σb4 sb4 r5 => ?_
  have r5 : Row tag3 σb4 7 125 ⟨some ⟨C, 0, none⟩, 6, 6⟩ [Zt.vI ((x1 b).1 : Nat), Zt.vI ((x2 b).1 : Nat), Zt.vI ((x3 b).1 : Nat), Zt.vI ((x4 b).1 : Nat), Zt.vI ((x5 b).1 : Nat), Sl.v ⟨none, 0, 0⟩] := r5
  have d5 : Zt.RdIs tag3 σb4 31 X c b (x5 b).2 := rdis_keep e4 sb4 (by decide)
  have t5 : Step [7, 31] ro tag3 σ4 tag3 σb4 := t4.trans ((sa4.mono (by decide)).trans (sb4.mono (by decide)))
  show lfpD (l70_ref05_Asm_Add B ro (some ⟨T, 0, none⟩) xs 0 C X Q Y) (IntKind.i64.wrap (4 + 1)) σb4
  rw [show IntKind.i64.wrap (4 + 1) = 5 from by decide]
  refine lfpD.intro ?_
  unfold l70_ref05_Asm_Add
  rw [if_neg (by decide)]
  unfold j9_ref05_Asm_Add
  refine Zt.rdblob_ok (tag := tag3) (by decide) d5 hd hc hl fun dp tagB σB stB dB rP => ?_
  have dB : Zt.RdIs tagB σB 31 X c b (x6 b).2 := dB
  have rP : Row tagB σB 6 5 dp ((ckOf b).part.map Zt.vU) := rP
  refine Row.stPre [Sl.v dp] 5 _ _ (r5.keep stB (by decide)) stB.sep (by simp) (by simp [storable, Sl.v]) fun σC stC rC => ?_
  have rC : Row tagB σC 7 125 ⟨some ⟨C, 0, none⟩, 6, 6⟩ [Zt.vI ((ckOf b).number : Nat), Zt.vI ((ckOf b).count : Nat), Zt.vI ((ckOf b).at' : Nat), Zt.vI ((ckOf b).length : Nat), Zt.vI ((ckOf b).sum : Nat), Sl.v dp] := rC
  have dC := rdis_keep dB stC (by decide)
  have rPC := rP.keep stC (by decide)
  have hsC := stC.sep
  have s0C : StepS [0, 7, 9, 31, r] ro tag σ tagB σC := s04.trans ((t5.s (by simp)).trans ((stB.s (by simp)).trans (stC.s (by simp))))
  have hC := h.keep (st1 []) (by simp) (by simp) (by simp)
  have hC := hC.keep (st3 []) (by simp) (by simp) (by simp)
  have hC := ((hC.keep st4 (by simp <;> omega) (by simp <;> omega) (by decide)).keep t5 (by simp <;> omega) (by simp <;> omega) (by decide)).keep ((stB.mono (R' := [31, 7]) (by decide)).trans (stC.mono (by decide))) (by simp <;> omega) (by simp <;> omega) (by decide)
  clear rX d0 d1 d2 d3 d4 d5 r0 r1 r2 r3 r4 r5 dB
  -- what stands in the chunk's cells
  obtain ⟨pC, hpC, gC⟩ := rC.ptr hsC (by simp)
  cases hpC
  have cC : ∀ i v, [Zt.vI ((ckOf b).number : Nat), Zt.vI ((ckOf b).count : Nat), Zt.vI ((ckOf b).at' : Nat), Zt.vI ((ckOf b).length : Nat), Zt.vI ((ckOf b).sum : Nat), Sl.v dp][i]? = some v → acell ro σC ((⟨C, 0, none⟩ : Addr).add i) = some v := fun i v hv => by
    have := gC i v hv; rwa [Nat.mul_one] at this
  have bad : ckOk b = false → ∀ x, x = true → j22_ref05_Asm_Add B ro (some ⟨T, 0, none⟩) xs 0 C Q Y x σC := fun hk x hx => by
    unfold j22_ref05_Asm_Add
    rw [if_pos hx]
    have e1 : asAdd1 a b = (a, 50) := by unfold asAdd1; rw [if_neg (by rw [hk]; simp)]
    rw [e1] at hQ
    exact hQ s qs tagB σC s0C hC
  have bad20 : ckOk b = false → ∀ x, x = true → j20_ref05_Asm_Add B ro (some ⟨T, 0, none⟩) xs 0 C Q Y x σC := fun hk x hx => by
    unfold j20_ref05_Asm_Add; rw [if_pos hx]; exact bad hk _ rfl
  have bad18 : ckOk b = false → ∀ x, x = true → j18_ref05_Asm_Add B ro (some ⟨T, 0, none⟩) xs 0 C Q Y x σC := fun hk x hx => by
    unfold j18_ref05_Asm_Add; rw [if_pos hx]; exact bad20 hk _ rfl
  have bad16 : ckOk b = false → ∀ x, x = true → j16_ref05_Asm_Add B ro (some ⟨T, 0, none⟩) xs 0 C Q Y x σC := fun hk x hx => by
    unfold j16_ref05_Asm_Add; rw [if_pos hx]; exact bad18 hk _ rfl
  have bad14 : ckOk b = false → ∀ x, x = true → j14_ref05_Asm_Add B ro (some ⟨T, 0, none⟩) xs 0 C Q Y x σC := fun hk x hx => by
    unfold j14_ref05_Asm_Add; rw [if_pos hx]; exact bad16 hk _ rfl
  have bad12 : ckOk b = false → ∀ x, x = true → j12_ref05_Asm_Add B ro (some ⟨T, 0, none⟩) xs 0 C Q Y x σC := fun hk x hx => by
    unfold j12_ref05_Asm_Add; rw [if_pos hx]; exact bad14 hk _ rfl
  have eok : ckOk b = (decide ((x6 b).2.err = 0) && (decide ((x6 b).2.rest.length = 0) && ckFits (ckOf b))) := rfl
  refine ⟨_, rdErr dC hsC, ?_⟩
  by_cases c1 : (x6 b).2.err = 0
  rotate_left
  · rw [if_pos c1]; exact bad12 (by rw [eok, decide_eq_false c1]; rfl) _ rfl
  rw [if_neg (by simpa using c1)]
  refine Zt.rdleft_ok dC hd hl ?_
  by_cases c2 : (x6 b).2.rest.length = 0
  rotate_left
  · exact bad12 (by rw [eok, decide_eq_false c2]; simp) _ (by rw [decide_eq_false (show ¬ (((x6 b).2.rest.length : Nat) : Int) = 0 by omega)]; rfl)
  rw [decide_eq_true (show (((x6 b).2.rest.length : Nat) : Int) = 0 by omega)]
  have eok2 : ckOk b = ckFits (ckOf b) := by rw [eok, decide_eq_true c1, decide_eq_true c2]; rfl
  unfold ckFits at eok2
  unfold j12_ref05_Asm_Add
  rw [if_neg (by decide)]
  refine ⟨_, cC 1 _ rfl, ?_⟩
  by_cases c3 : 1 ≤ (ckOf b).count
  rotate_left
  · exact bad14 (by rw [eok2, decide_eq_false c3]; rfl) _ (decide_eq_true (by omega))
  rw [decide_eq_false (by omega)]
  unfold j14_ref05_Asm_Add
  rw [if_neg (by decide)]
  refine ⟨_, cC 1 _ rfl, ?_⟩
  by_cases c4 : (ckOf b).count ≤ 1048576
  rotate_left
  · exact bad16 (by rw [eok2, decide_eq_false c4]; simp) _ (decide_eq_true (by omega))
  rw [decide_eq_false (by omega)]
  unfold j16_ref05_Asm_Add
  rw [if_neg (by decide)]
  refine ⟨_, cC 2 _ rfl, _, cC 1 _ rfl, ?_⟩
  by_cases c5 : (ckOf b).at' < (ckOf b).count
  rotate_left
  · exact bad18 (by rw [eok2, decide_eq_false c5]; simp) _ (decide_eq_true (by omega))
  rw [decide_eq_false (by omega)]
  unfold j18_ref05_Asm_Add
  rw [if_neg (by decide)]
  refine ⟨_, cC 3 _ rfl, ?_⟩
  by_cases c6 : (ckOf b).length ≤ 1048576
  rotate_left
  · exact bad20 (by rw [eok2, decide_eq_false c6]; simp) _ (decide_eq_true (by omega))
  rw [decide_eq_false (by omega)]
  unfold j20_ref05_Asm_Add
  rw [if_neg (by decide)]
  have hln : dp.len = (ckOf b).part.length := by rw [rPC.len, List.length_map]
  refine ⟨_, cC 5 _ rfl, _, cC 3 _ rfl, ?_⟩
  by_cases c7 : (ckOf b).part.length ≤ (ckOf b).length
  rotate_left
  · exact bad (by rw [eok2, decide_eq_false c7]; simp) _ (decide_eq_true (by omega))
  rw [decide_eq_false (by omega)]
  have hk : ckOk b = true := by rw [eok2, decide_eq_true c3, decide_eq_true c4, decide_eq_true c5, decide_eq_true c6, decide_eq_true c7]; rfl
  have eA : asAdd1 a b = (if ((a.begin (ckOf b)).fits (ckOf b)) = true then ({ (a.begin (ckOf b)) with parts := qput (a.begin (ckOf b)).parts ((ckOf b).at' : Int) (ckOf b).part }, 0) else (a.begin (ckOf b), 51)) := by
    unfold asAdd1; rw [if_pos hk]
  unfold j22_ref05_Asm_Add
  rw [if_neg (by decide)]
  have hLC := hC.lst hsC
  have hsl := hLC.len
  have hparts := hC.parts
  -- the place is looked up, and the chunk put there
  have last : ∀ (tagD : Nat → Nat) (σD : AH), StepS [0, 9] ro tagB σC tagD σD → (a.count = 0 ∨ ((ckOf b).length = a.length ∧ (ckOf b).sum = a.sum ∧ (ckOf b).number = a.number ∧ (ckOf b).count = a.count)) → j24_ref05_Asm_Add B ro (some ⟨T, 0, none⟩) xs 0 C Q Y σD := by
    intro tagD σD stD hcase
    have sD : StepS [0, 7, 9, 31, r] ro tag σ tagD σD := s0C.trans (stD.mono (by simp))
    have hD := hC.keepS stD (by rw [hmod]; simp; omega) (by decide)
    have hsD := stD.sep
    have hLD := hD.lst hsD
    have rCD := rC.keepS stD (by decide)
    have rPD := rPC.keepS stD (by decide)
    obtain ⟨pC, hpC, gD⟩ := rCD.ptr hsD (by simp)
    cases hpC
    have cD : ∀ i v, [Zt.vI ((ckOf b).number : Nat), Zt.vI ((ckOf b).count : Nat), Zt.vI ((ckOf b).at' : Nat), Zt.vI ((ckOf b).length : Nat), Zt.vI ((ckOf b).sum : Nat), Sl.v dp][i]? = some v → acell ro σD ((⟨C, 0, none⟩ : Addr).add i) = some v := fun i v hv => by
      have := gD i v hv; rwa [Nat.mul_one] at this
    have hbeg : (a.begin (ckOf b)).parts = a.parts := by unfold As.begin; split <;> rfl
    have hrk : a.begin (ckOf b) = { a with length := (ckOf b).length, sum := (ckOf b).sum, number := (ckOf b).number, count := (ckOf b).count } := by
      unfold As.begin
      split
      · rfl
      · rename_i hc0
        obtain ⟨e1, e2, e3, e4⟩ := hcase.resolve_left hc0
        rw [e1, e2, e3, e4]
    have hfit : (a.begin (ckOf b)).fits (ckOf b) = (match a.parts.lookup ((ckOf b).at' : Int) with | some p => decide (p = (ckOf b).part) | none => true) := by
      rw [hrk]; unfold As.fits; simp; cases a.parts.lookup ((ckOf b).at' : Int) <;> rfl
    unfold j24_ref05_Asm_Add
    refine ⟨_, cD 2 _ rfl, ?_⟩
    refine find_ok hLD (by omega) (fun hno => ?_) fun i q hq hqk => ?_
    · have hn : ∀ p ∈ a.parts, p.1 ≠ ((ckOf b).at' : Int) := fun p hp => by
        rw [hparts] at hp
        obtain ⟨q, hq, rfl⟩ := List.mem_map.1 hp
        exact hno q hq
      rw [look_none hn] at hfit
      rw [if_pos hfit, hbeg, qput_new hn] at eA
      rw [eA] at hQ
      rw [if_neg (by decide)]
      unfold j27_ref05_Asm_Add
      rw [if_neg (by decide), if_pos (by decide)]
      refine ⟨_, rfl, s, hLD.top, _, _, _, _, _, dp, rCD.cellsAt hsD, ?_⟩
      refine nw_cells (tag := tagD) 0 hsD fun V tagE σE stE rE => ?_
      have hE := hD.keep (stE []) (by simp) (by simp) (by simp)
      refine awp_appendW (l2 := [[Zt.vI ((ckOf b).number : Nat), Zt.vI ((ckOf b).count : Nat), Zt.vI ((ckOf b).at' : Nat), Zt.vI ((ckOf b).length : Nat), Zt.vI ((ckOf b).sum : Nat), Sl.v dp]]) hE.row (stE []).sep (Row.readW1 rE (stE []).sep rfl (by decide)) (t := 54) (by kernel_rfl) ty125 rfl (by simp [storable, Sl.v]) (by simp <;> omega) (by decide) fun s2 tagF σF stF rF => ?_
      refine ⟨s2, rfl, _, rfl, ?_⟩
      have stF := stF [r + 64] (.inr (by simp))
      refine (hE.top.keep stF (by simp)).st (i := 0) stF.sep rfl (by simp) rfl fun σG stG rG => ?_
      refine hnext σG ?_
      have hEG : Step [r + 64, r] ro tagE σE tagF σG := (stF.mono (by simp)).trans (stG.mono (by simp))
      refine hQ s2 (qs ++ [(((ckOf b).at' : Int), dp, (ckOf b).part)]) tagF σG (sD.trans (((stE []).s (by simp)).trans (hEG.s (by intro x hx; simp at hx; rcases hx with rfl | rfl <;> simp [hmod])))) ⟨?_, rG, ?_, fun q hq => ?_⟩
      · rw [hrk]; simp [hparts]
      · have rF := rF.keep stG (by simp)
        rw [List.map_append]
        have e1 : qs.map (fun q => rk a q) = qs.map (fun q => rk ({ a.begin (ckOf b) with parts := a.parts ++ [(((ckOf b).at' : Int), (ckOf b).part)] }) q) := by
          rcases hcase with c0 | ⟨f1, f2, f3, f4⟩
          · have : qs = [] := by
              have := hI.zero.1 c0
              rw [hparts] at this
              exact List.map_eq_nil_iff.1 this
            rw [this]; rfl
          · apply List.map_congr_left
            intro q _
            rw [hrk]; unfold rk; simp only [f1, f2, f3, f4]
        rw [← e1]
        have e2 : rk ({ a.begin (ckOf b) with parts := a.parts ++ [(((ckOf b).at' : Int), (ckOf b).part)] }) (((ckOf b).at' : Int), dp, (ckOf b).part) = [Zt.vI ((ckOf b).number : Nat), Zt.vI ((ckOf b).count : Nat), Zt.vI ((ckOf b).at' : Nat), Zt.vI ((ckOf b).length : Nat), Zt.vI ((ckOf b).sum : Nat), Sl.v dp] := by
          rw [hrk]; rfl
        simp only [List.map_cons, List.map_nil]
        rw [e2]
        exact rF
      · rcases List.mem_append.1 hq with hq | hq
        · exact (hE.data q hq).keep hEG (by simp <;> omega)
        · rw [List.mem_singleton.1 hq]
          exact (rPD.keep (stE []) (by simp)).keep hEG (by simp <;> omega)
    · rw [if_pos (by omega)]
      have hqm : q ∈ qs := List.mem_of_getElem? hq
      have hi : i < qs.length := by
        rcases Nat.lt_or_ge i qs.length with h | h
        · exact h
        · rw [List.getElem?_eq_none h] at hq; cases hq
      obtain ⟨p, hp⟩ := hLD.ptr hi
      have hcz : a.count ≠ 0 := fun e => by
        have := hI.zero.1 e
        rw [this] at hqp; simp at hqp; omega
      have hlk : a.parts.lookup ((ckOf b).at' : Int) = some q.2.2 := qmem_look hI.nd (by rw [hparts, ← hqk]; exact List.mem_map.2 ⟨q, hqm, rfl⟩)
      have hba : a.begin (ckOf b) = a := by unfold As.begin; rw [if_neg hcz]
      rw [hlk] at hfit
      refine ⟨_, rfl, s, hLD.top, p, hp, by omega, by omega, q.2.1, ?_, dp, cD 5 _ rfl, ?_⟩
      · rw [Int.toNat_natCast]; exact hLD.at hq hp (i := 5) rfl
      refine Zt.same_ok ((hD.data q hqm).read hsD) (rPD.read hsD) ?_
      unfold j27_ref05_Asm_Add
      by_cases e : q.2.2 = (ckOf b).part
      · rw [decide_eq_true e, if_neg (by decide), if_neg (by omega)]
        simp only [decide_eq_true e] at hfit
        rw [if_pos hfit, hba, qput_same hI.nd (by rw [hlk, e])] at eA
        rw [eA] at hQ
        exact hnext σD (hQ s qs tagD σD sD hD)
      · rw [decide_eq_false e, if_pos (show (!false) = true from rfl)]
        simp only [decide_eq_false e] at hfit
        rw [if_neg (by rw [hfit]; simp), hba] at eA
        rw [eA] at hQ
        exact hQ s qs tagD σD sD hD
  refine ⟨_, rfl, s, hLC.top, ?_⟩
  by_cases c0 : qs.length = 0
  · rw [if_neg (by omega)]
    exact last tagB σC (StepS.refl hsC) (.inl (hI.zero.2 (List.eq_nil_of_length_eq_zero (by omega))))
  rw [if_pos (by omega)]
  have hcz : a.count ≠ 0 := fun e => by
    have := hI.zero.1 e
    rw [this] at hqp; simp at hqp; omega
  have hba : a.begin (ckOf b) = a := by unfold As.begin; rw [if_neg hcz]
  obtain ⟨p, hp⟩ := hLC.ptr (j := 0) (by omega)
  have hq0 := List.getElem?_eq_getElem (l := qs) (i := 0) (by omega)
  refine ⟨_, rfl, s, hLC.top, p, hp, by omega, by omega, (a.number : Int), (a.count : Int), (qs[0]'(by omega)).1, (a.length : Int), (a.sum : Int), cellsAt_of 0 fun i v hv => ?_, ?_⟩
  · rw [Nat.zero_add]
    refine hLC.at hq0 hp (i := i) ?_
    match i, hv with
    | 0, hv => exact hv
    | 1, hv => exact hv
    | 2, hv => exact hv
    | 3, hv => exact hv
    | 4, hv => exact hv
  refine nw_cells (tag := tagB) 9 hsC fun F tagD σD stD rF => ?_
  refine rF.stAll (stD []).sep rfl (by simp [storable]) fun σE stE rE => ?_
  have sE : StepS [0, 9] ro tagB σC tagD σE := ((stD []).s (by simp)).trans (stE.s (by decide))
  have hsE := stE.sep
  have rCE := rC.keepS sE (by decide)
  obtain ⟨pC, hpC, gE⟩ := rCE.ptr hsE (by simp)
  cases hpC
  have cE : ∀ i v, [Zt.vI ((ckOf b).number : Nat), Zt.vI ((ckOf b).count : Nat), Zt.vI ((ckOf b).at' : Nat), Zt.vI ((ckOf b).length : Nat), Zt.vI ((ckOf b).sum : Nat), Sl.v dp][i]? = some v → acell ro σE ((⟨C, 0, none⟩ : Addr).add i) = some v := fun i v hv => by
    have := gE i v hv; rwa [Nat.mul_one] at this
  obtain ⟨pF, hpF, gF⟩ := rE.ptr hsE (by simp)
  cases hpF
  have no : ¬ ((ckOf b).length = a.length ∧ (ckOf b).sum = a.sum ∧ (ckOf b).number = a.number ∧ (ckOf b).count = a.count) → Q 51 σE := fun hn => by
    have hf : ¬ (a.begin (ckOf b)).fits (ckOf b) = true := by
      rw [hba]; intro hf
      unfold As.fits at hf
      simp only [Bool.and_eq_true, decide_eq_true_eq] at hf
      exact hn ⟨hf.1.1, hf.1.2.1, hf.1.2.2, hf.2.1⟩
    rw [if_neg hf, hba] at eA
    rw [eA] at hQ
    exact hQ s qs tagD σE (s0C.trans (sE.mono (by simp))) (hC.keepS sE (by rw [hmod]; simp; omega) (by decide))
  have no54 : ¬ ((ckOf b).length = a.length ∧ (ckOf b).sum = a.sum ∧ (ckOf b).number = a.number ∧ (ckOf b).count = a.count) → ∀ x, x = true → j54_ref05_Asm_Add B ro (some ⟨T, 0, none⟩) xs 0 C Q Y x σE := fun hn x hx => by
    unfold j54_ref05_Asm_Add; rw [if_pos hx]; exact no hn
  have no52 : ¬ ((ckOf b).length = a.length ∧ (ckOf b).sum = a.sum ∧ (ckOf b).number = a.number ∧ (ckOf b).count = a.count) → ∀ x, x = true → j52_ref05_Asm_Add B ro (some ⟨T, 0, none⟩) xs 0 C F Q Y x σE := fun hn x hx => by
    unfold j52_ref05_Asm_Add; rw [if_pos hx]; exact no54 hn _ rfl
  have no50 : ¬ ((ckOf b).length = a.length ∧ (ckOf b).sum = a.sum ∧ (ckOf b).number = a.number ∧ (ckOf b).count = a.count) → ∀ x, x = true → j50_ref05_Asm_Add B ro (some ⟨T, 0, none⟩) xs 0 C F Q Y x σE := fun hn x hx => by
    unfold j50_ref05_Asm_Add; rw [if_pos hx]; exact no52 hn _ rfl
  refine ⟨_, gF 0 _ rfl, _, cE 0 _ rfl, ?_⟩
  by_cases f1 : (ckOf b).number = a.number
  rotate_left
  · rw [if_pos (by omega)]; exact no50 (fun e => f1 e.2.2.1) _ rfl
  rw [if_neg (by omega)]
  refine ⟨_, gF 1 _ rfl, _, cE 1 _ rfl, ?_⟩
  by_cases f2 : (ckOf b).count = a.count
  rotate_left
  · exact no50 (fun e => f2 e.2.2.2) _ (by rw [decide_eq_false (by omega)]; rfl)
  rw [decide_eq_true (show (a.count : Int) = ((ckOf b).count : Nat) by omega)]
  unfold j50_ref05_Asm_Add
  rw [if_neg (by decide)]
  refine ⟨_, gF 3 _ rfl, _, cE 3 _ rfl, ?_⟩
  by_cases f3 : (ckOf b).length = a.length
  rotate_left
  · exact no52 (fun e => f3 e.1) _ (by rw [decide_eq_false (by omega)]; rfl)
  rw [decide_eq_true (show (a.length : Int) = ((ckOf b).length : Nat) by omega)]
  unfold j52_ref05_Asm_Add
  rw [if_neg (by decide)]
  refine ⟨_, gF 4 _ rfl, _, cE 4 _ rfl, ?_⟩
  by_cases f4 : (ckOf b).sum = a.sum
  rotate_left
  · exact no54 (fun e => f4 e.2.1) _ (by rw [decide_eq_false (by omega)]; rfl)
  rw [decide_eq_true (show (a.sum : Int) = ((ckOf b).sum : Nat) by omega)]
  unfold j54_ref05_Asm_Add
  rw [if_neg (by decide)]
  exact last tagD σE sE (.inr ⟨f3, f4, f1, f2⟩)
end Go.Proofs.YtfobjidchipdaaaGreatDoor.Sn

/- The document's chunks made. -/
namespace Go.Proofs.YtfobjidchipdaaaGreatDoor.Sn
open Go Go.Proofs.YtfobjidchipdaaaGreatDoor.SL Go.Proofs.YtfobjidchipdaaaGreatDoor.G Go.Proofs.YtfobjidchipdaaaGreatDoor.Pa Go.Proofs.YtfobjidchipdaaaGreatDoor.Wi
set_option linter.unusedSimpArgs false
set_option linter.unusedVariables false
set_option maxRecDepth 100000
variable {B : World} {ro σ σ' : AH} {tag tag' : Nat → Nat}
theorem rbad_ok {x : Int} {Q : Bool → AH → Prop} (hQ : Q (decide (x < 0 ∨ 4611686018427387903 < x)) σ) : c_ref01_Bad B ro x σ Q := by
  refine ref01_Bad_ok fun _ => ?_
  unfold f_ref01_Bad
  rwa [← Bool.decide_or]
theorem cnt_of {n sz j : Nat} (h1 : 1 ≤ sz) (hj : 1 ≤ j) (h2 : (j - 1) * sz < n) (h3 : n ≤ j * sz) : cnt n sz = j := by
  obtain ⟨i, rfl⟩ : ∃ i, j = i + 1 := ⟨j - 1, by omega⟩
  rw [Nat.add_sub_cancel] at h2
  have hq : (n + sz - 1) / sz = i + 1 := by
    rw [Nat.add_mul, Nat.one_mul] at h3
    refine Nat.div_eq_of_lt_le ?_ ?_
    · rw [Nat.add_mul, Nat.one_mul]; omega
    · rw [Nat.add_mul, Nat.add_mul, Nat.one_mul]; omega
  unfold cnt
  rw [hq]
  split <;> omega
theorem cnt_zero {sz : Nat} (h : 1 ≤ sz) : cnt 0 sz = 1 := by
  unfold cnt
  have : (0 + sz - 1) / sz = 0 := Nat.div_eq_of_lt (by omega)
  rw [this]; rfl
theorem rchunks_ok {number size : Int} {s : Sl} {d : Str} {Q : Sl → Int → AH → Prop} (hd : SL.Read ro (fun _ => none) s (d.map Zt.vU)) (hcap : s.len ≤ s.cap)
    (hno : chE number d.length size ≠ 0 → SL.Sep ro σ → Q ⟨none, 0, 0⟩ (chE number d.length size) σ)
    (hok : ∀ k sz : Nat, chE number d.length size = 0 → number = k → size = sz → k < 4611686018427387904 → d.length ≤ 1048576 → 1 ≤ sz → sz ≤ 32768 → ∀ (s' : Sl) (ss : List Sl) tag' σ', StepS [0, 20, 21] ro tag σ tag' σ' → Row tag' σ' 20 22 s' (ss.map Sl.v) → ss.length = cnt d.length sz → (∀ (i : Nat) (x : Sl), ss[i]? = some x → Row tag' σ' 6 5 x ((encCk (ckAt k d sz i)).map Zt.vU)) → Q s' 0 σ') :
    c_ref05_Chunks B ro number s size σ Q := by
  refine ref05_Chunks_ok fun hs => ?_
  unfold f_ref05_Chunks
  have hln : s.len = d.length := by rw [hd.1, List.length_map]
  unfold chE at hno hok
  refine rbad_ok ?_
  by_cases c1 : number < 0 ∨ 4611686018427387903 < number
  · rw [if_pos c1] at hno; rw [if_pos (decide_eq_true c1)]; exact hno (by decide) hs
  rw [if_neg c1] at hno hok
  rw [if_neg (by rw [decide_eq_false c1]; simp)]
  by_cases c2 : 1048576 < d.length
  · rw [if_pos c2] at hno; rw [if_pos (by omega)]; exact hno (by decide) hs
  rw [if_neg c2] at hno hok
  rw [if_neg (by omega)]
  by_cases c3 : size < 1 ∨ 32768 < size
  · rw [if_pos c3] at hno ⊢; exact hno (by decide) hs
  rw [if_neg c3] at hno hok ⊢
  obtain ⟨k, rfl⟩ := Int.eq_ofNat_of_zero_le (a := number) (by omega)
  obtain ⟨sz, rfl⟩ := Int.eq_ofNat_of_zero_le (a := size) (by omega)
  have hok' := hok k sz rfl rfl rfl (by omega) (by omega) (by omega) (by omega)
  clear hok hno
  have h1 : 1 ≤ sz := by omega
  have h2 : sz ≤ 32768 := by omega
  have hcr := crc_lt d
  -- the chunks of the parts
  have made : ∀ (x8 : Sl) (ps : List Sl) (tag1 : Nat → Nat) (σ1 : AH), StepS [0, 20, 21] ro tag σ tag1 σ1 → Row tag1 σ1 21 22 x8 (ps.map Sl.v) → ps.length = cnt d.length sz → (∀ (i : Nat) (x : Sl), ps[i]? = some x → SL.Read ro (fun _ => none) x ((partOf d sz i).map Zt.vU)) → j4_ref05_Chunks B ro (k : Int) s Q x8 σ1 := by
    intro x8 ps tag1 σ1 st1 r1 hpl hps
    unfold j4_ref05_Chunks
    have h8 : x8.len = cnt d.length sz := by rw [r1.len, List.length_map, hpl]
    refine Zt.rsum_ok (l := d) hd.keep (by omega) ?_
    suffices ∀ (m i : Nat) (s' : Sl) (ss : List Sl) (tag2 : Nat → Nat) (σ2 : AH), i + m = cnt d.length sz → StepS [0, 20] ro tag1 σ1 tag2 σ2 → Row tag2 σ2 20 22 s' (ss.map Sl.v) → ss.length = i → (∀ (j : Nat) (x : Sl), ss[j]? = some x → Row tag2 σ2 6 5 x ((encCk (ckAt k d sz j)).map Zt.vU)) → lfpD (l9_ref05_Chunks B ro (k : Int) s x8 ((crc d : Nat) : Int) Q) (s', (i : Int)) σ2 from
      this _ 0 _ [] tag1 σ1 (Nat.zero_add _) (StepS.refl st1.sep) (Row.nil 20 22) rfl (fun j x h => by cases h)
    intro m
    induction m with
    | zero =>
      intro i s' ss tag2 σ2 hi st2 r2 hl hrows
      refine lfpD.intro ?_
      unfold l9_ref05_Chunks
      simp only
      rw [if_neg (by omega)]
      unfold j7_ref05_Chunks
      exact hok' s' ss tag2 σ2 (st1.trans (st2.mono (by decide))) r2 (by omega) hrows
    | succ m ih =>
      intro i s' ss tag2 σ2 hi st2 r2 hl hrows
      have hil : i < cnt d.length sz := by omega
      obtain ⟨hrt, hft⟩ := ckAt_right (k := k) (d := d) (sz := sz) (i := i) (by omega) (by omega) h1 h2 hil
      have hcl2 : cnt d.length sz ≤ 1048576 := by
        unfold ckFits at hft
        simp only [Bool.and_eq_true, decide_eq_true_eq] at hft
        exact hft.2.1
      have hpll := partOf_len d sz i
      have hs2 := st2.sep
      have r12 := r1.keepS st2 (by decide)
      have hip : i < ps.length := by omega
      obtain ⟨p, hp, _⟩ := r12.ptr hs2 (by rw [List.length_map]; omega)
      have hrd := hps i _ (List.getElem?_eq_getElem hip)
      have hcell : ∀ τ, acell (join ro (inR tag2 [21] σ2)) τ (p.add i) = some (Sl.v ps[i]) := fun τ => r12.lendR hs2 (by simp) hp (by rw [List.getElem?_map, List.getElem?_eq_getElem hip]; rfl)
      generalize ps[i] = pi at hrd hcell
      refine lfpD.intro ?_
      generalize hY : lfpD (l9_ref05_Chunks B ro (k : Int) s x8 ((crc d : Nat) : Int) Q) = Y
      unfold l9_ref05_Chunks
      simp only
      rw [if_pos (by omega)]
      refine lent_roles tag2 [21] ?_
      refine ⟨p, hp, by omega, by omega, pi, by rw [Int.toNat_natCast, Nat.mul_one]; exact hcell _, ?_⟩
      refine Zt.rput_ok (tag := tag2) (by omega) (by omega) fun a1 t1 τ1 u1 v1 => ?_
      refine Zt.rput_ok (tag := t1) (by omega) (by omega) fun a2 t2 τ2 u2 v2 => ?_
      refine Zt.rput_ok (tag := t2) (by omega) (by omega) fun a3 t3 τ3 u3 v3 => ?_
      refine Zt.rput_ok (tag := t3) (by omega) (by omega) fun a4 t4 τ4 u4 v4 => ?_
      refine Zt.rput_ok (tag := t4) (by omega) (by omega) fun a5 t5 τ5 u5 v5 => ?_
      refine Zt.rblobp_ok (tag := t5) (d := partOf d sz i) (read_more hrd).keep (by omega) fun a6 t6 τ6 u6 v6 => ?_
      refine nw_cells (tag := t6) 0 (u6 []).sep fun V t7 τ7 u7 v7 => ?_
      have hs7 := (u7 []).sep
      have w6 := (v6.keep (u7 []) (by simp)).read hs7
      have w5 := (v5.keep ((u6 []).trans (u7 [])) (by simp)).read hs7
      have w4 := (v4.keep ((u5 []).trans ((u6 []).trans (u7 []))) (by simp)).read hs7
      have w3 := (v3.keep ((u4 []).trans ((u5 []).trans ((u6 []).trans (u7 [])))) (by simp)).read hs7
      have w2 := (v2.keep ((u3 []).trans ((u4 []).trans ((u5 []).trans ((u6 []).trans (u7 []))))) (by simp)).read hs7
      have w1 := (v1.keep ((u2 []).trans ((u3 []).trans ((u4 []).trans ((u5 []).trans ((u6 []).trans (u7 [])))))) (by simp)).read hs7
      have hel := encCk_len (k := k) (d := d) (sz := sz) (i := i) (by omega) (by omega) h1 h2 hil
      have efl : [vput (Int.toNat (k : Int)), vput (Int.toNat (x8.len : Int)), vput (Int.toNat (i : Int)), vput (Int.toNat (s.len : Int)), vput (Int.toNat ((crc d : Nat) : Int)), blob (partOf d sz i)].flatten = encCk (ckAt k d sz i) := by
        simp only [Int.toNat_natCast, h8, hln]; rfl
      refine Zt.rjoin_ok (tag := t7) (ss := [a1, a2, a3, a4, a5, a6]) (ls := [vput (Int.toNat (k : Int)), vput (Int.toNat (x8.len : Int)), vput (Int.toNat (i : Int)), vput (Int.toNat (s.len : Int)), vput (Int.toNat ((crc d : Nat) : Int)), blob (partOf d sz i)]) (v7.read hs7) rfl (fun i' x l hx hl' => ?_) (by rw [efl]; omega) (by simp) fun so t8 τ8 u8 v8 => ?_
      · match i', hx, hl' with
        | 0, hx, hl' => cases hx; cases hl'; exact w1
        | 1, hx, hl' => cases hx; cases hl'; exact w2
        | 2, hx, hl' => cases hx; cases hl'; exact w3
        | 3, hx, hl' => cases hx; cases hl'; exact w4
        | 4, hx, hl' => cases hx; cases hl'; exact w5
        | 5, hx, hl' => cases hx; cases hl'; exact w6
        | i' + 6, hx, _ => cases hx
      rw [efl] at v8
      refine nw_cells (tag := t8) 0 (u8 []).sep fun V2 t9 τ9 u9 v9 => ?_
      have u29 : ∀ R, Step R (join ro (inR tag2 [21] σ2)) tag2 (outR tag2 [21] σ2) t9 τ9 := fun R => (u1 R).trans ((u2 R).trans ((u3 R).trans ((u4 R).trans ((u5 R).trans ((u6 R).trans ((u7 R).trans ((u8 R).trans (u9 R))))))))
      have r20 := (r2.outR (L := [21]) (by decide)).keep (u29 []) (by simp)
      refine awp_append1 r20 (u9 []).sep u44 ty22 rfl rfl (Row.cell1 v9 (u9 []).sep) rfl (by rw [List.length_map]; omega) (by decide) fun s3 tA τA uA vA => ?_
      refine ⟨s3, rfl, ?_⟩
      intro hdis
      have uAll := ((u29 [20]).trans uA).backR hs2 hdis
      have rA := vA.backR hdis
      have rso := ((v8.keep (u9 []) (by simp)).keep uA (by decide)).backR hdis
      have sA : StepS [0, 20] ro tag2 σ2 _ _ := uAll.s (by decide)
      rw [Pa.inc i (by omega), ← hY]
      refine ih (i + 1) s3 (ss ++ [so]) _ _ (by omega) (st2.trans sA) (by rw [List.map_append]; exact rA) (by simp; omega) fun j x hx => ?_
      rcases Nat.lt_or_ge j ss.length with h | h
      · rw [List.getElem?_append_left h] at hx
        exact (hrows j x hx).keepS sA (by decide)
      · rw [List.getElem?_append_right h] at hx
        have hj : j = i := by
          rcases Nat.eq_zero_or_pos (j - ss.length) with h0 | h0
          · omega
          · rw [List.getElem?_eq_none (by simp; omega)] at hx; cases hx
        subst hj
        rw [hl, Nat.sub_self] at hx
        cases hx
        exact rso
  -- the parts
  suffices ∀ (m j : Nat) (x8 : Sl) (ps : List Sl) (tag1 : Nat → Nat) (σ1 : AH), d.length ≤ j * sz + m → (j = 0 ∨ (j - 1) * sz < d.length) → StepS [0, 21] ro tag σ tag1 σ1 → Row tag1 σ1 21 22 x8 (ps.map Sl.v) → ps.length = j → (∀ (i : Nat) (x : Sl), ps[i]? = some x → SL.Read ro (fun _ => none) x ((partOf d sz i).map Zt.vU)) → lfpD (l27_ref05_Chunks B ro (k : Int) s (sz : Int) Q) (x8, ((j * sz : Nat) : Int)) σ1 from by
    have := this d.length 0 ⟨none, 0, 0⟩ [] tag σ (by omega) (.inl rfl) (StepS.refl hs) (Row.nil 21 22) rfl (fun i x h => by cases h)
    rw [Nat.zero_mul] at this; exact this
  have out : ∀ (j : Nat) (x8 : Sl) (ps : List Sl) (tag1 : Nat → Nat) (σ1 : AH), d.length ≤ j * sz → (j = 0 ∨ (j - 1) * sz < d.length) → StepS [0, 21] ro tag σ tag1 σ1 → Row tag1 σ1 21 22 x8 (ps.map Sl.v) → ps.length = j → (∀ (i : Nat) (x : Sl), ps[i]? = some x → SL.Read ro (fun _ => none) x ((partOf d sz i).map Zt.vU)) → j2_ref05_Chunks B ro (k : Int) s Q x8 σ1 := by
    intro j x8 ps tag1 σ1 hj hlow st1 r1 hl hps
    have h8 : x8.len = j := by rw [r1.len, List.length_map, hl]
    unfold j2_ref05_Chunks
    by_cases c : j = 0
    · subst c
      rw [if_pos (by omega)]
      have hd0 : d.length = 0 := by omega
      have hps0 : ps = [] := List.eq_nil_of_length_eq_zero hl
      subst hps0
      refine nw_cells (tag := tag1) 0 st1.sep fun E tag2 σ2 st2 r2 => ?_
      refine nw_cells (tag := tag2) 0 (st2 []).sep fun V tag3 σ3 st3 r3 => ?_
      have r13 := (r1.keep (st2 []) (by simp)).keep (st3 []) (by simp)
      refine awp_append1 r13 (st3 []).sep u44 ty22 rfl rfl (Row.cell1 r3 (st3 []).sep) rfl (by simp) (by decide) fun s3 tag4 σ4 st4 r4 => ?_
      refine ⟨s3, rfl, ?_⟩
      refine made s3 [⟨some ⟨E, 0, none⟩, 0, 0⟩] tag4 σ4 ((st1.mono (by decide)).trans (((st2 []).s (by simp)).trans (((st3 []).s (by simp)).trans (st4.s (by decide))))) r4 (by rw [hd0, cnt_zero h1]; rfl) fun i x hx => ?_
      have hp0 : partOf d sz i = [] := by
        have := partOf_len d sz i
        exact List.eq_nil_of_length_eq_zero (by omega)
      rw [hp0]
      cases i with
      | zero => cases hx; exact ⟨rfl, fun h => (by cases h), fun p _ i v hv => by cases hv⟩
      | succ i => cases hx
    · rw [if_neg (by omega)]
      exact made x8 ps tag1 σ1 (st1.mono (by decide)) r1 (by rw [hl]; exact (cnt_of h1 (by omega) (hlow.resolve_left c) hj).symm) hps
  intro m
  induction m with
  | zero =>
    intro j x8 ps tag1 σ1 hj hlow st1 r1 hl hps
    refine lfpD.intro ?_
    unfold l27_ref05_Chunks
    simp only
    rw [if_neg (by omega)]
    exact out j x8 ps tag1 σ1 (by omega) hlow st1 r1 hl hps
  | succ m ih =>
    intro j x8 ps tag1 σ1 hj hlow st1 r1 hl hps
    refine lfpD.intro ?_
    generalize hY : lfpD (l27_ref05_Chunks B ro (k : Int) s (sz : Int) Q) = Y
    unfold l27_ref05_Chunks
    simp only
    by_cases c : d.length ≤ j * sz
    · rw [if_neg (by omega)]
      exact out j x8 ps tag1 σ1 c hlow st1 r1 hl hps
    rw [if_pos (by omega)]
    have hadd : (j + 1) * sz = j * sz + sz := by rw [Nat.add_mul, Nat.one_mul]
    have hjl : j ≤ d.length := by
      have : j * 1 ≤ j * sz := Nat.mul_le_mul_left _ h1
      omega
    have ew : IntKind.i64.wrap (((j * sz : Nat) : Int) + (sz : Int)) = (((j + 1) * sz : Nat) : Int) := by
      rw [w64_eq (by omega) (by omega)]; omega
    rw [ew]
    have go : ∀ e : Nat, e = (if d.length < (j + 1) * sz then d.length else (j + 1) * sz) → j30_ref05_Chunks B ro (k : Int) s (sz : Int) x8 ((j * sz : Nat) : Int) Q Y (e : Int) σ1 := by
      intro e he
      have hb1 : j * sz ≤ e ∧ e ≤ d.length := by rw [he]; split <;> omega
      unfold j30_ref05_Chunks
      refine ⟨⟨⟨by omega, by omega⟩, by omega, by simp only [cutHi]; omega⟩, ?_⟩
      rw [Int.toNat_natCast, Int.toNat_natCast, ew]
      have hpart : (d.drop (j * sz)).take (e - j * sz) = partOf d sz j := by
        unfold partOf
        rw [he]
        split
        · rw [List.take_of_length_le (by rw [List.length_drop]; exact Nat.le_refl _), List.take_of_length_le (by rw [List.length_drop]; omega)]
        · congr 1; omega
      have hrd := Zt.rcut_read (p := j * sz) (n := e - j * sz) hd hcap (by omega)
      rw [hpart] at hrd
      refine nw_cells (tag := tag1) 0 st1.sep fun V tag2 σ2 st2 r2 => ?_
      refine awp_append1 (r1.keep (st2 []) (by simp)) (st2 []).sep u44 ty22 rfl rfl (Row.cell1 r2 (st2 []).sep) rfl (by rw [List.length_map]; omega) (by decide) fun s3 tag3 σ3 st3 r3 => ?_
      refine ⟨s3, rfl, ?_⟩
      rw [← hY]
      refine ih (j + 1) s3 (ps ++ [⟨cutA s.a (j * sz) s.cap 1, e - j * sz, s.cap - j * sz⟩]) tag3 σ3 (by omega) (.inr (by rw [Nat.add_sub_cancel]; omega)) (st1.trans (((st2 []).s (by simp)).trans (st3.s (by decide)))) (by rw [List.map_append]; exact r3) (by simp; omega) fun i x hx => ?_
      rcases Nat.lt_or_ge i ps.length with h | h
      · rw [List.getElem?_append_left h] at hx
        exact hps i x hx
      · rw [List.getElem?_append_right h] at hx
        have hi : i = j := by
          rcases Nat.eq_zero_or_pos (i - ps.length) with h0 | h0
          · omega
          · rw [List.getElem?_eq_none (by simp; omega)] at hx; cases hx
        subst hi
        rw [hl, Nat.sub_self] at hx
        cases hx
        exact hrd
    rw [hln]
    by_cases cc : d.length < (j + 1) * sz
    · rw [if_pos (by omega)]
      exact go d.length (by rw [if_pos cc])
    · rw [if_neg (by omega)]
      exact go _ (by rw [if_neg cc])
end Go.Proofs.YtfobjidchipdaaaGreatDoor.Sn

/- SnapChunks, the walk. -/
namespace Go.Proofs.YtfobjidchipdaaaGreatDoor.SL
open Go
variable {ro σ σ' : AH} {tag tag' : Nat → Nat}
theorem MapN.backR {L : List Nat} {tag1 : Nat → Nat} {τ : AH} {r b : Nat} {m : KVn} (h : MapN tag1 τ r b m) (hd : Disj (inR tag L σ) τ) : MapN (tagB tag tag1 L σ) (join (inR tag L σ) τ) r b m := by
  obtain ⟨es, clock, hb, x⟩ := h.obj
  have hn : inR tag L σ b = none := by
    cases e : inR tag L σ b with
    | none => rfl
    | some o => have := hd b o e; rw [hb] at this; cases this
  exact ⟨by rw [tagB_out hn]; exact h.tg, es, clock, by unfold join; rw [hn]; exact hb, x⟩
theorem Row.lendRead {L : List Nat} {r : Nat} {e : TypeId} {s : Sl} {l : List Value} {τ : AH} (h : Row tag σ r e s l) (hs : Sep ro σ) (hr : r ∈ L) : Read (join ro (inR tag L σ)) τ s l := by
  refine ⟨h.len, fun hn => ?_, fun p hp i v hv => h.lendR hs hr hp hv⟩
  rcases h with ⟨_, h⟩ | ⟨c, cs, ha, _⟩
  · exact h
  · rw [hn] at ha; cases ha
end Go.Proofs.YtfobjidchipdaaaGreatDoor.SL
namespace Go.Proofs.YtfobjidchipdaaaGreatDoor.Sn
open Go Go.Proofs.YtfobjidchipdaaaGreatDoor.SL Go.Proofs.YtfobjidchipdaaaGreatDoor.G Go.Proofs.YtfobjidchipdaaaGreatDoor.Pa Go.Proofs.YtfobjidchipdaaaGreatDoor.Wi
set_option linter.unusedSimpArgs false
set_option linter.unusedVariables false
set_option maxRecDepth 100000
variable {B : World} {ro σ σ' : AH} {tag tag' : Nat → Nat}
theorem add_lend {a0 : Option Addr} {a1 : Sl} {L : List Nat} {Q : Int → AH → Prop} (h : c_snap_Asm_Add B (join ro (inR tag L σ)) a0 a1 (outR tag L σ) fun r τ => Disj (inR tag L σ) τ → Q r (join (inR tag L σ) τ)) : c_snap_Asm_Add B ro a0 a1 σ Q := by
  obtain ⟨e1, e2⟩ := join_lent tag L σ
  have := ACalls.lend h e2
  rw [e1] at this
  exact ACalls.mono this fun v σ' ⟨τ, ht, hd, r, hv, hq⟩ => ⟨r, hv, by rw [ht]; exact hq hd⟩
theorem AsAt.outR {L : List Nat} {r T M : Nat} {a : As} (h : AsAt tag σ r T M a) (h1 : r ∉ L) (h2 : r + 64 ∉ L) (h6 : 6 ∉ L) : AsAt tag (SL.outR tag L σ) r T M a := by
  obtain ⟨c, qs, e, m, d⟩ := h
  exact ⟨c.outR h1, qs, e, m.outR h2, fun q hq => (d q hq).outR h6⟩
theorem AsAt.backR {L : List Nat} {tag1 : Nat → Nat} {τ : AH} {r T M : Nat} {a : As} (h : AsAt tag1 τ r T M a) (hd : Disj (inR tag L σ) τ) : AsAt (tagB tag tag1 L σ) (join (inR tag L σ) τ) r T M a := by
  obtain ⟨c, qs, e, m, d⟩ := h
  exact ⟨c.backR hd, qs, e, m.backR hd, fun q hq => (d q hq).backR hd⟩
theorem sameInts_ok {a b : Sl} {x : List Int} {Q : Bool → AH → Prop} (ha : SL.Read ro σ a (x.map Zt.vI)) (hb : SL.Read ro σ b (x.map Zt.vI)) (hl : x.length < 4611686018427387904) (hQ : Q true σ) : c_ref01_SameInts B ro a b σ Q := by
  refine ref01_SameInts_ok fun _ => ?_
  unfold f_ref01_SameInts
  have h1 : a.len = x.length := by rw [ha.1, List.length_map]
  have h2 : b.len = x.length := by rw [hb.1, List.length_map]
  rw [if_neg (by omega)]
  suffices ∀ (m j : Nat), j + m = x.length → lfpD (l2_ref01_SameInts B ro a b Q) (j : Int) σ from this _ 0 (Nat.zero_add _)
  intro m
  induction m with
  | zero =>
    intro j hj
    refine lfpD.intro ?_
    unfold l2_ref01_SameInts
    rw [if_neg (by omega)]
    exact hQ
  | succ m ih =>
    intro j hj
    have hjx : j < x.length := by omega
    have ptr : ∀ {s : Sl}, SL.Read ro σ s (x.map Zt.vI) → ∃ p, s.a = some p ∧ acell ro σ (p.add j) = some (Zt.vI x[j]) := fun {s} h => by
      obtain ⟨p, hp⟩ : ∃ p, s.a = some p := by
        cases e : s.a with
        | none => have := h.2.1 e; simp at this; rw [this] at hjx; simp at hjx
        | some p => exact ⟨p, rfl⟩
      exact ⟨p, hp, h.2.2 p hp j _ (by rw [List.getElem?_map, List.getElem?_eq_getElem hjx]; rfl)⟩
    obtain ⟨p, hp, cp⟩ := ptr ha
    obtain ⟨q, hq, cq⟩ := ptr hb
    refine lfpD.intro ?_
    generalize hY : lfpD (l2_ref01_SameInts B ro a b Q) = Y
    unfold l2_ref01_SameInts
    rw [if_pos (by omega)]
    refine ⟨p, hp, by omega, by omega, q, hq, by omega, by omega, x[j], by rw [Int.toNat_natCast, Nat.mul_one]; exact cp, x[j], by rw [Int.toNat_natCast, Nat.mul_one]; exact cq, ?_⟩
    rw [if_neg (by simp), Pa.inc j (by omega), ← hY]
    exact ih (j + 1) (by omega)
/-- bytes turned over, one after the other -/
theorem flip_loop {a31 x85 : Sl} {T x75 : Nat} {x80 : Int} {Q : Bool → AH → Prop} {Y : Int → AH → Prop} {n : Nat} (hn : n < 4611686018427387904)
    (hE : ∀ σ', Step [17] ro tag σ tag σ' → j26_law05_SnapChunks B ro a31 (some ⟨T, 0, none⟩) x75 x80 Q Y σ') :
    ∀ (m j : Nat) (l : List Value) (σ1 : AH), j + m = n → Step [17] ro tag σ tag σ1 → Row tag σ1 17 5 x85 l → l.length = n → (∀ i, i < n → ∃ x, l[i]? = some (.int .u8 x)) →
      lfpD (l41_law05_SnapChunks B ro a31 (some ⟨T, 0, none⟩) x75 x80 x85 Q Y) (j : Int) σ1 := by
  intro m
  induction m with
  | zero =>
    intro j l σ1 hj st r hl _
    have h8 : x85.len = n := by rw [r.len, hl]
    refine lfpD.intro ?_
    unfold l41_law05_SnapChunks
    rw [if_neg (by omega)]
    exact hE σ1 st
  | succ m ih =>
    intro j l σ1 hj st r hl hall
    have h8 : x85.len = n := by rw [r.len, hl]
    obtain ⟨p, hp, hg⟩ := r.ptr st.sep (by omega)
    obtain ⟨x, hx⟩ := hall j (by omega)
    refine lfpD.intro ?_
    generalize hY : lfpD (l41_law05_SnapChunks B ro a31 (some ⟨T, 0, none⟩) x75 x80 x85 Q Y) = Z
    unfold l41_law05_SnapChunks
    rw [if_pos (by omega)]
    refine ⟨p, hp, by omega, by omega, x, by rw [Int.toNat_natCast]; exact hg j _ hx, p, hp, by omega, by omega, ?_⟩
    rw [Int.toNat_natCast]
    refine r.st (i := j) st.sep hp (by omega) rfl fun σ2 st2 r2 => ?_
    rw [Pa.inc j (by omega), ← hY]
    refine ih (j + 1) _ σ2 (by omega) (st.trans st2) r2 (by simpa using hl) fun i hi => ?_
    by_cases c : j = i
    · subst c
      rw [List.getElem?_set_self (by omega)]
      exact ⟨_, rfl⟩
    · rw [List.getElem?_set_ne c]; exact hall i hi
/-- the chunks that the law is given -/
def Given (ro : AH) (cs : List (Sl × Str)) : Prop := ∀ x ∈ cs, SL.Read ro (fun _ => none) x.1 (x.2.map Zt.vU) ∧ x.1.len ≤ x.1.cap ∧ x.2.length ≤ 140737488355328
theorem snapChunks_rounds (g : Glob ro) {s4 : Sl} {cs : List (Sl × Str)} {T M T2 : Nat} (h4 : SL.Read ro (fun _ => none) s4 ((cs.map (·.1)).map Sl.v)) (hcs : Given ro cs) (hl4 : cs.length < 4611686018427387904) :
    ∀ (m j : Nat) (a : As) (s : Sl) (qs : Qs) (tag1 : Nat → Nat) (σ1 : AH), j + m = cs.length → SL.Sep ro σ1 → AsAt tag1 σ1 10 T M a → RAt tag1 σ1 11 T2 a s qs → AsIn a →
      lfpD (l16_law05_SnapChunks B ro s4 (some ⟨T, 0, none⟩) T2 (fun r _ => r = true)) (j : Int) σ1 := by
  have hln : s4.len = cs.length := by rw [h4.1, List.length_map, List.length_map]
  intro m
  induction m with
  | zero =>
    intro j a s qs tag1 σ1 hj hs hA hR hI
    refine lfpD.intro ?_
    unfold l16_law05_SnapChunks
    rw [if_neg (by omega)]
    unfold j14_law05_SnapChunks
    exact c_law05_awake_mono (awake_ok g) fun r σ _ e => e
  | succ m ih =>
    intro j a s qs tag1 σ1 hj hs hA hR hI
    have hjc : j < cs.length := by omega
    obtain ⟨p, hp⟩ : ∃ p, s4.a = some p := by
      cases e : s4.a with
      | none => have := h4.2.1 e; simp at this; rw [this] at hjc; simp at hjc
      | some p => exact ⟨p, rfl⟩
    have hcell := (h4.keep (σ := σ1)).2.2 p hp j (Sl.v (cs[j]).1) (by rw [List.getElem?_map, List.getElem?_map, List.getElem?_eq_getElem hjc]; rfl)
    obtain ⟨hrd, hcap, hbl⟩ := hcs _ (List.getElem_mem hjc)
    generalize (cs[j]).1 = c at hcell hrd hcap
    generalize (cs[j]).2 = b at hrd hbl
    refine lfpD.intro ?_
    generalize hY : lfpD (l16_law05_SnapChunks B ro s4 (some ⟨T, 0, none⟩) T2 (fun r _ => r = true)) = Y
    unfold l16_law05_SnapChunks
    rw [if_pos (by omega)]
    refine ⟨p, hp, by omega, by omega, c, by rw [Int.toNat_natCast, Nat.mul_one]; exact hcell, ?_⟩
    refine Zt.copyR_ok 17 (tag := tag1) (.inl hrd) hbl fun y tag2 σ2 st2 r2 => ?_
    refine nw_cells (tag := tag2) 5 (st2 []).sep fun X tag3 σ3 st3 r3 => ?_
    have hs3 := (st3 []).sep
    have hA3 := hA.keep ((st2 []).trans (st3 [])) (by simp) (by simp) (by simp)
    have hR3 := hR.keep ((st2 []).trans (st3 [])) (by simp) (by simp) (by simp)
    have ry3 := r2.keep (st3 []) (by simp)
    refine add_lend (tag := tag3) (L := [17]) ?_
    refine add_ok (tag := tag3) (r := 10) (ss := [y]) (bs := [b]) (by decide) (by decide) (hA3.outR (by decide) (by decide) (by decide)) rfl (by simp) (fun tag' σ' st => (((r3.outR (L := [17]) (by decide)).keepS st (by decide)).read st.sep)) (fun i x b' hx hb' => ?_) fun tag4 σ4 st4 hA4 => ?_
    · cases i with
      | zero => cases hx; cases hb'; exact ⟨.inl (ry3.lendRead hs3 (by simp)), hbl⟩
      | succ i => cases hx
    intro hdis
    rw [asAdd_one] at hA4 ⊢
    have st5 := st4.backR hs3 hdis
    have hA5 := hA4.backR hdis
    have hs5 := st5.sep
    have hR5 := hR3.keepS st5 (by decide) (by decide)
    have ry5 := ry3.keepS st5 (by decide)
    refine nw_cells (tag := tagB tag3 tag4 [17] σ3) 5 hs5 fun X2 tag6 σ6 st6 r6 => ?_
    have hA6 := hA5.keep (st6 []) (by simp) (by simp) (by simp)
    have hR6 := hR5.keep (st6 []) (by simp) (by simp) (by simp)
    have ry6 := ry5.keep (st6 []) (by simp)
    refine radd1_ok (tag := tag6) (r := 11) (by decide) (by decide) hR6 hI r6 hrd hcap hbl fun s7 qs7 tag7 σ7 st7 hR7 => ?_
    have hA7 := hA6.keepS st7 (by decide) (by decide)
    have ry7 := ry6.keepS st7 (by decide)
    have hI7 := AsIn.add (b := b) hI
    rw [if_neg (by simp)]
    generalize (asAdd1 a b).1 = a7 at *
    have hy : (b.map Zt.vU).length = b.length := List.length_map _
    refine flip_loop (tag := tag7) (σ := σ7) (n := b.length) (by omega) (fun σ8 st8 => ?_) _ 0 _ σ7 (Nat.zero_add _) (Step.refl st7.sep) ry7 hy fun i hi => ⟨_, by rw [List.getElem?_map, List.getElem?_eq_getElem hi]; rfl⟩
    have hA8 := hA7.keep st8 (by decide) (by decide) (by decide)
    have hR8 := hR7.keep st8 (by decide) (by decide) (by decide)
    -- Missing of both
    have miss : ∀ tag9 σ9, AsAt tag9 σ9 10 T M a7 → RAt tag9 σ9 11 T2 a7 s7 qs7 → SL.Sep ro σ9 → j33_law05_SnapChunks B ro s4 (some ⟨T, 0, none⟩) T2 (j : Int) (fun r _ => r = true) Y false σ9 := by
      intro tag9 σ9 hA9 hR9 hs9
      unfold j33_law05_SnapChunks
      rw [if_neg (by simp)]
      refine missing_ok (tag := tag9) (r := 10) (by decide) (by decide) hA9 hI7.ok fun m1 tagA σA stA rA => ?_
      refine rmissing_ok (tag := tagA) (r := 11) (by decide) (by decide) (hR9.keepS stA (by decide) (by decide)) hI7 fun m2 tagB' σB stB rB => ?_
      refine sameInts_ok ((rA.keepS stB (by decide)).read stB.sep) (rB.read stB.sep) ?_ ?_
      · have : (asMissing a7).length ≤ a7.count := by
          unfold asMissing
          rw [List.length_map]
          have := List.length_filter_le (fun (i : Nat) => (a7.parts.lookup (i : Int)).isNone) (List.range a7.count)
          rwa [List.length_range] at this
        have := hI7.ok.count
        omega
      unfold j35_law05_SnapChunks
      rw [if_neg (by simp)]
      unfold j18_law05_SnapChunks
      rw [Pa.inc j (by omega), ← hY]
      exact ih (j + 1) a7 s7 qs7 tagB' σB (by omega) stB.sep ((hA9.keepS stA (by decide) (by decide)).keepS stB (by decide) (by decide)) ((hR9.keepS stA (by decide) (by decide)).keepS stB (by decide) (by decide)) hI7
    unfold j26_law05_SnapChunks
    refine done_ok (tag := tag7) (r := 10) (by decide) (by decide) hA8 hI7.ok (fun hd tag9 σ9 st9 => ?_) fun hd d1 tag9 σ9 st9 r9 => ?_
    · refine rdone_ok (tag := tag9) (r := 11) (by decide) (by decide) (hR8.keepS st9 (by decide) (by decide)) hI7 (fun _ tagA σA stA => ?_) fun hd2 => by rw [hd] at hd2; cases hd2
      rw [if_neg (by simp)]
      refine Zt.same_ok (x := []) (y := []) ⟨rfl, fun _ => rfl, fun p h => by cases h⟩ ⟨rfl, fun _ => rfl, fun p h => by cases h⟩ ?_
      rw [decide_eq_true rfl]
      exact miss tagA σA ((hA8.keepS st9 (by decide) (by decide)).keepS stA (by decide) (by decide)) ((hR8.keepS st9 (by decide) (by decide)).keepS stA (by decide) (by decide)) stA.sep
    · refine rdone_ok (tag := tag9) (r := 11) (by decide) (by decide) (hR8.keepS st9 (by decide) (by decide)) hI7 (fun hd2 => by rw [hd] at hd2; cases hd2) fun _ d2 tagA σA stA rA => ?_
      rw [if_neg (by simp)]
      refine Zt.same_ok ((r9.keepS stA (by decide)).read stA.sep) (rA.read stA.sep) ?_
      rw [decide_eq_true rfl]
      exact miss tagA σA ((hA8.keepS st9 (by decide) (by decide)).keepS stA (by decide) (by decide)) ((hR8.keepS st9 (by decide) (by decide)).keepS stA (by decide) (by decide)) stA.sep
theorem chunksLaw_ok (g : Glob ro) {n1 n2 : Int} {s1 s4 : Sl} {d : Str} {cs : List (Sl × Str)} (h1 : SL.Read ro (fun _ => none) s1 (d.map vU)) (hcap1 : s1.len ≤ s1.cap) (l1 : d.length ≤ 140737488355328) (h4 : SL.Read ro (fun _ => none) s4 ((cs.map (·.1)).map Sl.v)) (hcs : Given ro cs) (l4 : cs.length ≤ 17592186044416) :
    c_law05_SnapChunks B ro n1 s1 n2 s4 σ fun r _ => r = true := by
  refine law05_SnapChunks_ok fun hs => ?_
  unfold f_law05_SnapChunks
  refine nw_cells (tag := fun _ => 0) 50 hs fun x tag1 σ1 st1 r1 => ?_
  obtain ⟨p, hp, hg⟩ := r1.ptr (st1 []).sep (by simp)
  cases hp
  refine ⟨n1, hg 0 _ rfl, s1, hg 1 _ rfl, n2, hg 2 _ rfl, s4, hg 3 _ rfl, ?_⟩
  -- both put together
  have rest : ∀ (tag2 : Nat → Nat) (σ2 : AH), SL.Sep ro σ2 → j11_law05_SnapChunks B ro s4 (fun r _ => r = true) σ2 := by
    intro tag2 σ2 hs2
    unfold j11_law05_SnapChunks
    -- the role of every block is of no weight here
    refine newAsm_ok (tag := tag2) (r := 10) fun T M tag3 σ3 st3 hA => ?_
    refine nw_cells (tag := tag3) 11 (st3 []).sep fun T2 tag4 σ4 st4 r4 => ?_
    rw [if_neg (by simp)]
    exact snapChunks_rounds g h4 hcs (by omega) _ 0 As.new ⟨none, 0, 0⟩ [] tag4 σ4 (Nat.zero_add _) (st4 []).sep (hA.keep (st4 []) (by simp) (by simp) (by simp)) ⟨rfl, r4, RowW.nil _ _ _, fun q hq => by cases hq⟩ AsIn.new
  refine Zt.copy_ok (tag := tag1) (.inl h1) l1 fun y tag3 σ3 st3 r3 => ?_
  have hcap := r3.capAt
  refine chunks_ok (tag := tag3) (.inr r3.held) (by rw [r3.len]; exact hcap) (by omega) (fun he => ?_) fun k sz e0 e1 e2 hk hdl hz1 hz2 s ss tag4 σ4 st4 r4 hsl hrows => ?_
  · refine rchunks_ok (tag := tag3) h1 hcap1 (fun he2 hs3 => ?_) fun k sz e0 => absurd e0 he
    rw [if_neg (by simp)]
    refine lfpD.intro ?_
    unfold l46_law05_SnapChunks
    rw [if_neg (by simp)]
    exact rest tag3 σ3 hs3
  · refine rchunks_ok (tag := tag4) h1 hcap1 (fun he2 => absurd e0 he2) fun k' sz' _ e1' e2' _ _ _ _ s' ss' tag5 σ5 st5 r5 hsl' hrows' => ?_
    obtain rfl : k' = k := by omega
    obtain rfl : sz' = sz := by omega
    have hl : s.len = cnt d.length sz' := by rw [r4.len, List.length_map, hsl]
    have hl' : s'.len = cnt d.length sz' := by rw [r5.len, List.length_map, hsl']
    rw [if_neg (by simp; omega)]
    have r45 := r4.keepS st5 (by decide)
    have hc20 : cnt d.length sz' ≤ 1048577 := by
      have := (cnt_mul (n := d.length) hz1).2.1
      have h9 : cnt d.length sz' * 1 ≤ cnt d.length sz' * sz' := Nat.mul_le_mul_left _ hz1
      rcases Nat.lt_or_ge 1 sz' with h | h
      · have h8 : cnt d.length sz' * 2 ≤ cnt d.length sz' * sz' := Nat.mul_le_mul_left _ h
        omega
      · omega
    suffices ∀ (m j : Nat), j + m = cnt d.length sz' → lfpD (l46_law05_SnapChunks B ro s4 s s' (fun r _ => r = true)) (j : Int) σ5 from this _ 0 (Nat.zero_add _)
    intro m
    induction m with
    | zero =>
      intro j hj
      refine lfpD.intro ?_
      unfold l46_law05_SnapChunks
      rw [if_neg (by omega)]
      exact rest tag5 σ5 st5.sep
    | succ m ih =>
      intro j hj
      have hj1 : j < ss.length := by omega
      have hj2 : j < ss'.length := by omega
      obtain ⟨p1, hp1, hg1⟩ := r45.ptr st5.sep (by rw [List.length_map]; omega)
      obtain ⟨p2, hp2, hg2⟩ := r5.ptr st5.sep (by rw [List.length_map]; omega)
      refine lfpD.intro ?_
      generalize hY : lfpD (l46_law05_SnapChunks B ro s4 s s' (fun r _ => r = true)) = Y
      unfold l46_law05_SnapChunks
      rw [if_pos (by omega)]
      refine ⟨p1, hp1, by omega, by omega, p2, hp2, by omega, by omega, ss[j], by rw [Int.toNat_natCast]; exact hg1 j _ (by rw [List.getElem?_map, List.getElem?_eq_getElem hj1]; rfl), ss'[j], by rw [Int.toNat_natCast]; exact hg2 j _ (by rw [List.getElem?_map, List.getElem?_eq_getElem hj2]; rfl), ?_⟩
      refine Zt.same_ok (((hrows j _ (List.getElem?_eq_getElem hj1)).keepS st5 (by decide)).read st5.sep) ((hrows' j _ (List.getElem?_eq_getElem hj2)).read st5.sep) ?_
      rw [decide_eq_true rfl, if_neg (by simp), Pa.inc j (by omega), ← hY]
      exact ih (j + 1) (by omega)
end Go.Proofs.YtfobjidchipdaaaGreatDoor.Sn
