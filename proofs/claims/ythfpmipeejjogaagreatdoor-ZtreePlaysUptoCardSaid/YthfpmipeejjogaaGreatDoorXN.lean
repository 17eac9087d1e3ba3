/- R7M, R7N, R7O, R7Q, R7S, R7T, R7U, R7V, R8A, R8B, R8C, R8D, R8E, R7W, R8F, ZtR, MuR, R8G -/
import Derived.Test.YthfpmipeejjogaaGreatDoorXM
/- What a tree and the document's tree answer of one path. -/
namespace Go.Proofs.YthfpmipeejjogaaGreatDoor.Zt
open Go Go.Proofs.YthfpmipeejjogaaGreatDoor.SL Go.Proofs.YthfpmipeejjogaaGreatDoor.G Go.Proofs.YthfpmipeejjogaaGreatDoor.Pa Go.Proofs.YthfpmipeejjogaaGreatDoor.Wi
set_option linter.unusedSimpArgs false
set_option linter.unusedVariables false
set_option maxRecDepth 100000
variable {B : World} {ro σ σ' : AH} {tag tag' : Nat → Nat}

theorem g32 : Tryz.prog.eqGuardType Tryz.prog.depth 32 = false := by kernel_rfl
theorem st32 : Tryz.prog.stoodInHeld 32 = false := by kernel_rfl
theorem u32 : ∃ n1 n2 n3 n4 : Field, Tryz.prog.underlying 32 = some (.struct #[n1, n2, n3, n4]) ∧ (n1.type = 3 ∧ n1.offset = 0 ∧ n1.name ≠ "_") ∧ (n2.type = 3 ∧ n2.offset = 1 ∧ n2.name ≠ "_") ∧ (n3.type = 3 ∧ n3.offset = 2 ∧ n3.name ≠ "_") ∧ (n4.type = 3 ∧ n4.offset = 3 ∧ n4.name ≠ "_") :=
  ⟨_, _, _, _, Tryz.underlying32, ⟨rfl, rfl, by decide⟩, ⟨rfl, rfl, by decide⟩, ⟨rfl, rfl, by decide⟩, ⟨rfl, rfl, by decide⟩⟩
theorem eq32 {a b c d : Int} {τ : AH} : aread Tryz.prog ro (Op.equalIn (9999 + 1) 32 (.agg #[.int .i64 a, .int .i64 b, .int .i64 c, .int .i64 d]) (.agg #[.int .i64 a, .int .i64 b, .int .i64 c, .int .i64 d])) τ = some true := by
  obtain ⟨n1, n2, n3, n4, hu, ⟨h1, h2, h3⟩, ⟨h4, h5, h6⟩, ⟨h7, h8, h9⟩, h10, h11, h12⟩ := u32
  unfold Op.equalIn
  show aread Tryz.prog ro (Sem.bind (underlying 32) _) _ = _
  rw [underlying_bind _ _ hu]
  show aread Tryz.prog ro (if Tryz.prog.stoodInHeld 32 = true then _ else _) τ = _
  rw [st32, if_neg (by simp)]
  show aread Tryz.prog ro (Sem.bind (forIn #[n1, n2, n3, n4] _ _) _) τ = _
  have pp : ∀ {β : Type} (j : Nat) (v : Int) (f : Value → Sem β), (#[Value.int IntKind.i64 a, Value.int IntKind.i64 b, Value.int IntKind.i64 c, Value.int IntKind.i64 d] : Array Value)[j]? = some (.int .i64 v) → aread Tryz.prog ro (part 3 #[Value.int IntKind.i64 a, Value.int IntKind.i64 b, Value.int IntKind.i64 c, Value.int IntKind.i64 d] j >>= f) τ = aread Tryz.prog ro (f (.int .i64 v)) τ := fun j v f hj => by
    refine aread_bind _ _ ?_
    unfold part
    show aread Tryz.prog ro (Sem.bind (isAgg 3) _) τ = _
    rw [aread_isAgg (by kernel_rfl : Tryz.prog.underlying 3 = some (.int .i64))]
    rw [hj]
    rfl
  have q1 : ∀ {β : Type} (n : Int) (f : Bool → Sem β), aread Tryz.prog ro (Op.equalIn 9999 3 (.int .i64 n) (.int .i64 n) >>= f) τ = aread Tryz.prog ro (f true) τ := fun n f => aread_bind _ _ eqint
  refine (aread_bind _ _ (a := ((none, ()) : Option Bool × Unit)) ?_).trans rfl
  rw [← Array.forIn_toList]
  rw [List.forIn_cons]
  refine (aread_bind _ _ (a := .yield ((none, ()) : Option Bool × Unit)) ?_).trans ?_
  · rw [if_pos h3, h1, h2, pp 0 a _ rfl, pp 0 a _ rfl, q1]; rfl
  show aread Tryz.prog ro (forIn [n2, n3, n4] _ _) τ = _
  rw [List.forIn_cons]
  refine (aread_bind _ _ (a := .yield ((none, ()) : Option Bool × Unit)) ?_).trans ?_
  · rw [if_pos h6, h4, h5, pp 1 b _ rfl, pp 1 b _ rfl, q1]; rfl
  show aread Tryz.prog ro (forIn [n3, n4] _ _) τ = _
  rw [List.forIn_cons]
  refine (aread_bind _ _ (a := .yield ((none, ()) : Option Bool × Unit)) ?_).trans ?_
  · rw [if_pos h9, h7, h8, pp 2 c _ rfl, pp 2 c _ rfl, q1]; rfl
  show aread Tryz.prog ro (forIn [n4] _ _) τ = _
  rw [List.forIn_cons]
  refine (aread_bind _ _ (a := .yield ((none, ()) : Option Bool × Unit)) ?_).trans ?_
  · rw [if_pos h12, h10, h11, pp 3 d _ rfl, pp 3 d _ rfl, q1]; rfl
  rfl
theorem ne32 {a b c d : Int} {x y : Operand} {K : Value → AH → Prop} (h : K (.bool false) σ) : awp Tryz.prog ro (do eqGuard .neq 32 x y (.agg #[.int .i64 a, .int .i64 b, .int .i64 c, .int .i64 d]) (.agg #[.int .i64 a, .int .i64 b, .int .i64 c, .int .i64 d]); Go.binOp .neq 32 (.agg #[.int .i64 a, .int .i64 b, .int .i64 c, .int .i64 d]) (.agg #[.int .i64 a, .int .i64 b, .int .i64 c, .int .i64 d])) K σ := by
  refine awp_at_aread _ ?_ h
  refine (aread_bind _ _ (a := ()) ?_).trans ?_
  · show aread Tryz.prog ro (if (!(Tryz.prog.eqGuardType Tryz.prog.depth 32)) = true then _ else _) σ = _
    rw [g32, if_pos (by simp)]
    rfl
  · show aread Tryz.prog ro (Sem.bind (Op.equal 32 _ _) fun b => Sem.pure (Value.bool !b)) σ = _
    rw [equal_unfold, aread_bind _ _ eq32]; rfl
/-- what a tree says of a path: data, numbers, error -/
structure Ans where
  data : Str
  ver : Int
  ctr : Int
  own : Int
  kids : Int
  err : Int
def ansOf (st : St) (k : Str) : Ans := match parts k with
  | none => ⟨[], 0, 0, 0, 0, 20⟩
  | some _ => match st.lookup k with
    | none => ⟨[], 0, 0, 0, 0, 70⟩
    | some n => ⟨n.data, n.ver, n.ctr, n.own, n.kids, 0⟩
theorem getz_ok (q : Nat) (hq0 : q ≠ 0) {T : Nat} {st : St} {k : Str} {Q : Sl → Int → Int → Int → Int → Int → AH → Prop} (g : Glob ro) (hT : TreeIs tag σ 10 T st) (hi : Inv st)
    (hQ : ∀ s tag' σ', StepS [0] ro tag σ tag' σ' → Row tag' σ' q 5 s ((ansOf st k).data.map vU) → Q s (ansOf st k).ver (ansOf st k).ctr (ansOf st k).own (ansOf st k).kids (ansOf st k).err σ') : c_ztree_Tree_Get B ro (some ⟨T, 0, none⟩) (S k) σ Q := by
  obtain ⟨M, bs, hA⟩ := hT
  refine get_okq q hq0 g (by decide) (by decide) (by decide) hA hi.data (fun hb tag1 σ1 st1 => ?_) (fun ps hps hn tag1 σ1 st1 => ?_) fun n hn s tag1 σ1 st1 r1 => ?_
  · rw [L_S] at hb
    have e : ansOf st k = ⟨[], 0, 0, 0, 0, 20⟩ := by unfold ansOf; rw [hb]
    rw [e] at hQ
    exact hQ _ tag1 σ1 (st1.s (by simp)) (Row.nil _ _)
  · rw [L_S] at hps hn
    have e : ansOf st k = ⟨[], 0, 0, 0, 0, 70⟩ := by unfold ansOf; rw [hps, hn]
    rw [e] at hQ
    exact hQ _ tag1 σ1 (st1.s (by simp)) (Row.nil _ _)
  · rw [L_S] at hn
    obtain ⟨ps, hps⟩ := hi.path _ _ hn
    have e : ansOf st k = ⟨n.data, n.ver, n.ctr, n.own, n.kids, 0⟩ := by unfold ansOf; rw [hps, hn]
    rw [e] at hQ
    exact hQ _ tag1 σ1 (st1.s (by simp)) r1
theorem getr_ok {U : Nat} {st : St} {k : Str} {Q : ByteArray → Sl → Int → Int → Int → Int → Int → AH → Prop} (hU : RefIs tag σ 11 U (srt st)) (hi : Inv st) (hn : st.length ≤ 4294967296)
    (hQ : ∀ a d tag' σ', StepS [0] ro tag σ tag' σ' → Row tag' σ' 6 5 d ((ansOf st k).data.map vU) → Q a d (ansOf st k).ver (ansOf st k).ctr (ansOf st k).own (ansOf st k).kids (ansOf st k).err σ') : c_ref07_Tree_Get B ro (some ⟨U, 0, none⟩) (S k) σ Q := by
  have hk := hi.keys
  refine get7_ok (by decide) (by decide) (by decide) hU (by rw [(srt_perm st).length_eq]; exact hn) (fun hb tag1 σ1 st1 => ?_) (fun ps hps hn tag1 σ1 st1 => ?_) fun n hn d tag1 σ1 st1 r1 => ?_
  · have e : ansOf st k = ⟨[], 0, 0, 0, 0, 20⟩ := by unfold ansOf; rw [hb]
    rw [e] at hQ
    exact hQ _ _ tag1 σ1 st1 (Row.nil _ _)
  · rw [lookup_perm (srt_perm st) (by exact (srt_srt hk).nodup)] at hn
    have e : ansOf st k = ⟨[], 0, 0, 0, 0, 70⟩ := by unfold ansOf; rw [hps, hn]
    rw [e] at hQ
    exact hQ _ _ tag1 σ1 st1 (Row.nil _ _)
  · rw [lookup_perm (srt_perm st) (by exact (srt_srt hk).nodup)] at hn
    obtain ⟨ps, hps⟩ := hi.path _ _ hn
    have e : ansOf st k = ⟨n.data, n.ver, n.ctr, n.own, n.kids, 0⟩ := by unfold ansOf; rw [hps, hn]
    rw [e] at hQ
    rw [kc_perm' ((srt_perm st).map _), ← hi.kids _ _ hn]
    exact hQ _ _ tag1 σ1 st1 r1
end Go.Proofs.YthfpmipeejjogaaGreatDoor.Zt

/- What a tree and the document's tree answer of one path: children and paths. -/
namespace Go.Proofs.YthfpmipeejjogaaGreatDoor.Zt
open Go Go.Proofs.YthfpmipeejjogaaGreatDoor.SL Go.Proofs.YthfpmipeejjogaaGreatDoor.G Go.Proofs.YthfpmipeejjogaaGreatDoor.Pa Go.Proofs.YthfpmipeejjogaaGreatDoor.Wi
set_option linter.unusedSimpArgs false
set_option linter.unusedVariables false
set_option maxRecDepth 100000
variable {B : World} {ro σ σ' : AH} {tag tag' : Nat → Nat}

def kidsOf (st : St) (k : Str) : List Str × Int := match parts k with
  | none => ([], 20)
  | some _ => match st.lookup k with
    | none => ([], 70)
    | some _ => (namesOf ((srt st).map (·.1)) k, 0)
def underOf (st : St) (k : Str) : List Str × Int := match parts k with
  | none => ([], 20)
  | some _ => (((srt st).map (·.1)).filter fun x => isUnder k x, 0)
theorem chz_ok {T : Nat} {st : St} {k : Str} {Q : Sl → Int → AH → Prop} (g : Glob ro) (hT : TreeIs tag σ 10 T st) (hi : Inv st) (hs : SL.Sep ro σ) (hn : st.length ≤ 4294967296)
    (hQ : ∀ s tag' σ', StepS [22] ro tag σ tag' σ' → Row tag' σ' 22 9 s ((kidsOf st k).1.map Pa.vS) → Q s (kidsOf st k).2 σ') : c_ztree_Tree_Children B ro (some ⟨T, 0, none⟩) (S k) σ Q := by
  obtain ⟨M, bs, hA⟩ := hT
  have hpaths : ∀ p ∈ st, ∃ ps, parts p.1 = some ps := fun p hp => hi.path _ _ ((lookup_iff hi.keys (k := p.1) (n := p.2)).2 hp)
  refine children_ok (q := 22) g (by decide) (by decide) (by decide) hA hpaths (by omega) (fun hb => ?_) (fun ps hps hl => ?_) fun n hl s tag1 σ1 ks st1 hpm hsr r1 => ?_
  · rw [L_S] at hb
    have e : kidsOf st k = ([], 20) := by unfold kidsOf; rw [hb]
    rw [e] at hQ
    exact hQ _ tag σ (StepS.refl hs) (Row.nil _ _)
  · rw [L_S] at hps hl
    have e : kidsOf st k = ([], 70) := by unfold kidsOf; rw [hps, hl]
    rw [e] at hQ
    exact hQ _ tag σ (StepS.refl hs) (Row.nil _ _)
  · rw [L_S] at hl r1
    obtain ⟨ps, hps⟩ := hi.path _ _ hl
    have e : kidsOf st k = (namesOf ((srt st).map (·.1)) k, 0) := by unfold kidsOf; rw [hps, hl]
    rw [e] at hQ
    rw [srt_keys hi.keys hpm hsr] at r1
    exact hQ _ tag1 σ1 (st1.s (by simp)) r1
theorem chr_ok {U : Nat} {st : St} {k : Str} {Q : Sl → Int → AH → Prop} (hU : RefIs tag σ 11 U (srt st)) (hi : Inv st) (hn : st.length ≤ 4294967296)
    (hQ : ∀ s tag' σ', StepS [0, 24] ro tag σ tag' σ' → Row tag' σ' 24 9 s ((kidsOf st k).1.map Pa.vS) → Q s (kidsOf st k).2 σ') : c_ref07_Tree_Children B ro (some ⟨U, 0, none⟩) (S k) σ Q := by
  have hk := hi.keys
  refine children7_ok (q := 24) (by decide) (by decide) (by decide) (by decide) (by decide) (by decide) hU (by rw [(srt_perm st).length_eq]; exact hn) (fun hb tag1 σ1 st1 => ?_) (fun ps hps hl tag1 σ1 st1 => ?_) fun n hl s tag1 σ1 st1 r1 => ?_
  · have e : kidsOf st k = ([], 20) := by unfold kidsOf; rw [hb]
    rw [e] at hQ
    exact hQ _ tag1 σ1 (st1.mono (by decide)) (Row.nil _ _)
  · rw [lookup_perm (srt_perm st) (by exact (srt_srt hk).nodup)] at hl
    have e : kidsOf st k = ([], 70) := by unfold kidsOf; rw [hps, hl]
    rw [e] at hQ
    exact hQ _ tag1 σ1 (st1.mono (by decide)) (Row.nil _ _)
  · rw [lookup_perm (srt_perm st) (by exact (srt_srt hk).nodup)] at hl
    obtain ⟨ps, hps⟩ := hi.path _ _ hl
    have e : kidsOf st k = (namesOf ((srt st).map (·.1)) k, 0) := by unfold kidsOf; rw [hps, hl]
    rw [e] at hQ
    exact hQ _ tag1 σ1 st1 r1
theorem paz_ok {T : Nat} {st : St} {k : Str} {Q : Sl → Int → AH → Prop} (g : Glob ro) (hT : TreeIs tag σ 10 T st) (hi : Inv st) (hn : st.length ≤ 4294967296)
    (hQ : ∀ s tag' σ', StepS [26] ro tag σ tag' σ' → Row tag' σ' 26 9 s ((underOf st k).1.map Pa.vS) → Q s (underOf st k).2 σ') : c_ztree_Tree_Paths B ro (some ⟨T, 0, none⟩) (S k) σ Q := by
  obtain ⟨M, bs, hA⟩ := hT
  have hpaths : ∀ p ∈ st, ∃ ps, parts p.1 = some ps := fun p hp => hi.path _ _ ((lookup_iff hi.keys (k := p.1) (n := p.2)).2 hp)
  refine pathsAny_ok (q := 26) g (by decide) (by decide) (by decide) hA hpaths (by omega) (fun hb tag1 σ1 st1 => ?_) fun ps hps s tag1 σ1 ks st1 hpm hsr r1 => ?_
  · rw [L_S] at hb
    have e : underOf st k = ([], 20) := by unfold underOf; rw [hb]
    rw [e] at hQ
    exact hQ _ tag1 σ1 ((st1 []).s (by simp)) (Row.nil _ _)
  · rw [L_S] at hps r1
    have e : underOf st k = (((srt st).map (·.1)).filter fun x => isUnder k x, 0) := by unfold underOf; rw [hps]
    rw [e] at hQ
    rw [srt_keys hi.keys hpm hsr] at r1
    exact hQ _ tag1 σ1 (st1.s (by simp)) r1
theorem par_ok {U : Nat} {st : St} {k : Str} {Q : Sl → Int → AH → Prop} (hU : RefIs tag σ 11 U (srt st)) (hi : Inv st) (hn : st.length ≤ 4294967296)
    (hQ : ∀ s tag' σ', StepS [0, 28] ro tag σ tag' σ' → Row tag' σ' 28 9 s ((underOf st k).1.map Pa.vS) → Q s (underOf st k).2 σ') : c_ref07_Tree_Paths B ro (some ⟨U, 0, none⟩) (S k) σ Q := by
  have hpaths : ∀ p ∈ srt st, ∃ ps, parts p.1 = some ps := fun p hp => hi.path _ _ ((lookup_iff hi.keys (k := p.1) (n := p.2)).2 ((srt_perm st).mem_iff.1 hp))
  refine paths7_ok (q := 28) (by decide) (by decide) (by decide) (by decide) (by decide) (by decide) hU hpaths (by rw [(srt_perm st).length_eq]; exact hn) (fun hb tag1 σ1 st1 => ?_) fun ps hps s tag1 σ1 st1 r1 => ?_
  · have e : underOf st k = ([], 20) := by unfold underOf; rw [hb]
    rw [e] at hQ
    exact hQ _ tag1 σ1 (st1.mono (by decide)) (Row.nil _ _)
  · have e : underOf st k = (((srt st).map (·.1)).filter fun x => isUnder k x, 0) := by unfold underOf; rw [hps]
    rw [e] at hQ
    exact hQ _ tag1 σ1 st1 r1
theorem kids_len {st : St} (k : Str) : (kidsOf st k).1.length ≤ st.length ∧ (underOf st k).1.length ≤ st.length := by
  constructor
  · unfold kidsOf
    split
    · simp
    · split
      · simp
      · refine Nat.le_trans (List.length_filterMap_le _ _) ?_
        rw [List.length_map, (srt_perm st).length_eq]; exact Nat.le_refl _
  · unfold underOf
    split
    · simp
    · refine Nat.le_trans (List.length_filter_le _ _) ?_
      rw [List.length_map, (srt_perm st).length_eq]; exact Nat.le_refl _
end Go.Proofs.YthfpmipeejjogaaGreatDoor.Zt

/- The tree and the document's tree are alike. -/
namespace Go.Proofs.YthfpmipeejjogaaGreatDoor.Zt
open Go Go.Proofs.YthfpmipeejjogaaGreatDoor.SL Go.Proofs.YthfpmipeejjogaaGreatDoor.G Go.Proofs.YthfpmipeejjogaaGreatDoor.Pa Go.Proofs.YthfpmipeejjogaaGreatDoor.Wi
set_option linter.unusedSimpArgs false
set_option linter.unusedVariables false
set_option maxRecDepth 100000
variable {B : World} {ro σ σ' : AH} {tag tag' : Nat → Nat}

abbrev vB (x : Int) : Value := .int .u8 x
theorem flip_ok {a0 a1 : Option Addr} {a2 s : Sl} {x54 : Int} {Q : Bool → AH → Prop} {Y : Int → AH → Prop} {vs : List Int} (hs : SL.Sep ro σ) (h : Row tag σ 32 5 s (vs.map vB)) (hl : vs.length ≤ 4611686018427387903)
    (hK : ∀ σ', Step [32] ro tag σ tag σ' → j6_law07_alike B ro a0 a1 a2 x54 Q Y σ') : lfpD (l33_law07_alike B ro a0 a1 a2 x54 s Q Y) (0 : Int) σ := by
  suffices ∀ m j (vs : List Int) σ2, j + m = vs.length → vs.length ≤ 4611686018427387903 → Step [32] ro tag σ tag σ2 → Row tag σ2 32 5 s (vs.map vB) → lfpD (l33_law07_alike B ro a0 a1 a2 x54 s Q Y) (j : Int) σ2 from
    this _ 0 vs σ (Nat.zero_add _) hl (Step.refl hs) h
  intro m
  induction m with
  | zero =>
    intro j vs σ2 hj hl st2 r2
    have hln := r2.len
    rw [List.length_map] at hln
    refine lfpD.intro ?_
    unfold l33_law07_alike
    rw [if_neg (by omega)]
    exact hK σ2 st2
  | succ m ih =>
    intro j vs σ2 hj hl st2 r2
    have hln := r2.len
    rw [List.length_map] at hln
    have hjl : j < vs.length := by omega
    obtain ⟨p, hp, hg⟩ := r2.ptr st2.sep (by simp; omega)
    refine lfpD.intro ?_
    unfold l33_law07_alike
    rw [if_pos (by omega)]
    refine ⟨p, hp, by omega, by omega, vs[j], by rw [Int.toNat_natCast]; exact hg j _ (by rw [List.getElem?_map, List.getElem?_eq_getElem hjl]; rfl), p, hp, by omega, by omega, ?_⟩
    rw [Int.toNat_natCast]
    refine r2.st st2.sep hp (by simpa using hjl) rfl fun σ3 st3 r3 => ?_
    rw [Pa.inc j (by omega)]
    rw [show (vs.map vB).set j (.int .u8 (bitXor .u8 (if IntKind.u8.signed then -1 else IntKind.u8.max) vs[j])) = (vs.set j (bitXor .u8 (if IntKind.u8.signed then -1 else IntKind.u8.max) vs[j])).map vB from by rw [List.map_set]] at r3
    exact ih (j + 1) _ σ3 (by rw [List.length_set]; omega) (by rw [List.length_set]; exact hl) (st2.trans st3) r3
abbrev CA : List Nat := [0, 1, 20, 21, 22, 24, 26, 28, 30, 32]
theorem alike_ok {T U : Nat} {st : St} {a2 a3 : Sl} {ws : List Int} {ps : List Str} {Q : Bool → AH → Prop} (g : Glob ro) (hT : TreeIs tag σ 10 T st) (hU : RefIs tag σ 11 U (srt st)) (hi : Inv3 st) (hn : st.length ≤ 4294967296) (hw : SL.Read ro (fun _ => none) a3 (ws.map vI)) (hwl : ws.length ≤ 4611686018427387903)
    (hrd : ∀ tag' σ', StepS CA ro tag σ tag' σ' → SL.Read ro σ' a2 (ps.map Pa.vS)) (hpl : ps.length ≤ 4611686018427387903)
    (hQ : ∀ tag' σ', StepS CA ro tag σ tag' σ' → Q true σ') :
    c_law07_alike B ro (some ⟨T, 0, none⟩) (some ⟨U, 0, none⟩) a2 a3 σ Q := by
  refine alike_head g hT hU hi hn hw hwl fun tag1 σ1 st1 => ?_
  have st1 := st1.mono (D := CA) (by decide)
  unfold j1_law07_alike
  rw [if_neg (by simp)]
  suffices ∀ m j tag2 σ2, j + m = ps.length → StepS CA ro tag σ tag2 σ2 → lfpD (l4_law07_alike B ro (some ⟨T, 0, none⟩) (some ⟨U, 0, none⟩) a2 Q) (j : Int) σ2 from this _ 0 tag1 σ1 (Nat.zero_add _) st1
  intro m
  induction m with
  | zero =>
    intro j tag2 σ2 hj st2
    have h2 := hrd tag2 σ2 st2
    have hln := h2.1
    rw [List.length_map] at hln
    refine lfpD.intro ?_
    unfold l4_law07_alike
    rw [if_neg (by omega)]
    exact hQ tag2 σ2 st2
  | succ m ih =>
    intro j tag2 σ2 hj st2
    have h2 := hrd tag2 σ2 st2
    have hln := h2.1
    rw [List.length_map] at hln
    have hjl : j < ps.length := by omega
    obtain ⟨p, hp⟩ : ∃ p, a2.a = some p := by
      cases e : a2.a with
      | none => have := h2.2.1 e; simp at this; rw [this] at hjl; simp at hjl
      | some p => exact ⟨p, rfl⟩
    have hcell := h2.2.2 p hp j (Pa.vS ps[j]) (by rw [List.getElem?_map, List.getElem?_eq_getElem hjl]; rfl)
    generalize ps[j] = k at hcell
    have hT2 := hT.keepS st2 (by decide) (by decide)
    have hU2 := hU.keepS st2 (by decide) (by decide)
    refine lfpD.intro ?_
    unfold l4_law07_alike
    rw [if_pos (by omega)]
    refine ⟨p, hp, by omega, by omega, S k, by rw [Int.toNat_natCast, Nat.mul_one]; exact hcell, ?_⟩
    refine getz_ok 32 (by decide) g hT2 hi.inv fun s tag3 σ3 st3 r3 => ?_
    have hU3 := hU2.keepS st3 (by decide) (by decide)
    refine nw_st (tag := tag3) 33 st3.sep rfl (by simp [storable]) fun X12 tag4 σ4 st4 r4 => ?_
    have hU4 := hU3.keepS ((st4 []).s (C := []) (by simp)) (by simp) (by simp)
    have r34 := r3.keep (st4 []) (by simp)
    refine getr_ok hU4 hi.inv hn fun pa d tag5 σ5 st5 rd5 => ?_
    refine nw_st (tag := tag5) 34 st5.sep rfl (by simp [storable, Sl.v]) fun X14 tag6 σ6 st6 r6 => ?_
    have s25 : StepS CA ro tag2 σ2 tag6 σ6 := (st3.mono (by decide)).trans (((st4 []).s (by simp)).trans ((st5.mono (by decide)).trans ((st6 []).s (by simp))))
    have hT6 := hT2.keepS s25 (by decide) (by decide)
    have hU6 := hU2.keepS s25 (by decide) (by decide)
    have r36 := (r34.keepS st5 (by decide)).keep (st6 []) (by simp)
    have r46 := (r4.keepS st5 (by decide)).keep (st6 []) (by simp)
    have rd6 := rd5.keep (st6 []) (by simp)
    refine chz_ok g hT6 hi.inv (st6 []).sep hn fun s7 tag7 σ7 st7 r7 => ?_
    have hU7 := hU6.keepS st7 (by decide) (by decide)
    refine chr_ok hU7 hi.inv hn fun s8 tag8 σ8 st8 r8 => ?_
    have s68 : StepS CA ro tag6 σ6 tag8 σ8 := (st7.mono (by decide)).trans (st8.mono (by decide))
    have hT8 := hT6.keepS s68 (by decide) (by decide)
    refine paz_ok g hT8 hi.inv hn fun s9 tag9 σ9 st9 r9 => ?_
    have hU9 := (hU7.keepS st8 (by decide) (by decide)).keepS st9 (by decide) (by decide)
    refine par_ok hU9 hi.inv hn fun s10 tag10 σ10 st10 r10 => ?_
    have s610 : StepS CA ro tag6 σ6 tag10 σ10 := s68.trans ((st9.mono (by decide)).trans (st10.mono (by decide)))
    have hs10 := st10.sep
    have k3 := (((r36.keepS st7 (by decide)).keepS st8 (by decide)).keepS st9 (by decide)).keepS st10 (by decide)
    have k4 := r46.keepS s610 (by decide)
    have k6 := r6.keepS s610 (by decide)
    have kd := rd6.keepS s610 (by decide)
    have k7 := ((r7.keepS st8 (by decide)).keepS st9 (by decide)).keepS st10 (by decide)
    have k8 := (r8.keepS st9 (by decide)).keepS st10 (by decide)
    have k9 := r9.keepS st10 (by decide)
    obtain ⟨p4, hp4, g4⟩ := k4.ptr hs10 (by simp)
    cases hp4
    obtain ⟨p6, hp6, g6⟩ := k6.ptr hs10 (by simp)
    cases hp6
    obtain ⟨kl1, kl2⟩ := kids_len (st := st) k
    rw [if_neg (by simp)]
    refine ⟨d, g6 1 _ rfl, ?_⟩
    refine same_ok (k3.read hs10) (kd.read hs10) ?_
    rw [decide_eq_true rfl]
    unfold j25_law07_alike
    rw [if_neg (by simp)]
    refine ⟨_, _, _, _, Row.cellsAt k4 hs10, _, g6 2 _ rfl, _, g6 3 _ rfl, _, g6 4 _ rfl, ?_⟩
    refine ne32 ⟨false, rfl, ?_⟩
    unfold j27_law07_alike
    rw [if_neg (by simp)]
    refine sameTexts_ok (k7.read hs10) (k8.read hs10) (by omega) ?_
    unfold j29_law07_alike
    rw [if_neg (by simp)]
    refine sameTexts_ok (k9.read hs10) (r10.read hs10) (by omega) ?_
    unfold j31_law07_alike
    rw [if_neg (by simp)]
    have evB : (ansOf st k).data.map vU = ((ansOf st k).data.map fun c => (c.toNat : Int)).map vB := by rw [List.map_map]; rfl
    rw [evB] at k3
    refine flip_ok hs10 k3 ?_ fun σ11 st11 => ?_
    · rw [List.length_map]
      have : (ansOf st k).data.length ≤ 256 := by
        unfold ansOf
        split
        · simp
        · split
          · simp
          · rename_i n hn'; exact hi.inv.data _ _ hn'
      omega
    unfold j6_law07_alike
    rw [Pa.inc j (by omega)]
    exact ih (j + 1) tag10 σ11 (by omega) (st2.trans (s25.trans (s610.trans (st11.s (by decide)))))
end Go.Proofs.YthfpmipeejjogaaGreatDoor.Zt

/- The document's reader. -/
namespace Go.Proofs.YthfpmipeejjogaaGreatDoor.Zt
open Go Go.Proofs.YthfpmipeejjogaaGreatDoor.SL Go.Proofs.YthfpmipeejjogaaGreatDoor.G Go.Proofs.YthfpmipeejjogaaGreatDoor.Pa Go.Proofs.YthfpmipeejjogaaGreatDoor.Wi
set_option linter.unusedSimpArgs false
set_option linter.unusedVariables false
set_option maxRecDepth 100000
variable {B : World} {ro σ σ' : AH} {tag tag' : Nat → Nat}

/-- a reader of the document: its block, the bytes (read only), what is left and the error -/
def RdIs (tag : Nat → Nat) (σ : AH) (q X : Nat) (s : Sl) (l : Str) (rd : Rd) : Prop := ∃ p : Nat, p ≤ l.length ∧ rd.rest = l.drop p ∧ Row tag σ q 154 ⟨some ⟨X, 0, none⟩, 3, 3⟩ [Sl.v s, .int .i64 (p : Int), .int .i64 rd.err]
end Go.Proofs.YthfpmipeejjogaaGreatDoor.Zt

/- The document's reader: Blob. -/
namespace Go.Proofs.YthfpmipeejjogaaGreatDoor.SL
open Go
variable {ro σ σ' : AH} {tag tag' : Nat → Nat}
theorem addr_add (a : Addr) (p i : Nat) : (a.add p).add i = a.add (p + i) := by
  unfold Addr.add
  by_cases hp : p = 0
  · subst hp; simp
  · by_cases hi : i = 0
    · subst hi; simp [hp]
    · simp [hp, hi, Nat.add_assoc]
theorem Read.cut {s : Sl} {l : List Value} {p n : Nat} (h : Read ro σ s l) (hc : s.len ≤ s.cap) (hn : p + n ≤ l.length) : Read ro σ ⟨cutA s.a p s.cap 1, p + n - p, s.cap - p⟩ ((l.drop p).take n) := by
  have hl := h.1
  refine ⟨by simp; omega, fun ha => ?_, fun a ha i v hv => ?_⟩
  · unfold cutA at ha
    split at ha
    · rename_i e
      have : n = 0 := by omega
      subst this; simp
    · cases hs : s.a with
      | none => rw [h.2.1 hs] at hn ⊢; simp
      | some x => rw [hs] at ha; simp at ha
  · rw [List.getElem?_take] at hv
    split at hv
    · rename_i hin
      rw [List.getElem?_drop] at hv
      unfold cutA at ha
      split at ha
      · omega
      · cases hs : s.a with
        | none => rw [hs] at ha; cases ha
        | some x =>
          rw [hs] at ha
          simp only [Option.map_some, Nat.mul_one] at ha
          cases ha
          rw [addr_add]
          exact h.2.2 x hs (p + i) v hv
    · cases hv
end Go.Proofs.YthfpmipeejjogaaGreatDoor.SL
namespace Go.Proofs.YthfpmipeejjogaaGreatDoor.Zt
open Go Go.Proofs.YthfpmipeejjogaaGreatDoor.SL Go.Proofs.YthfpmipeejjogaaGreatDoor.G Go.Proofs.YthfpmipeejjogaaGreatDoor.Pa Go.Proofs.YthfpmipeejjogaaGreatDoor.Wi
set_option linter.unusedSimpArgs false
set_option linter.unusedVariables false
set_option maxRecDepth 100000
variable {B : World} {ro σ σ' : AH} {tag tag' : Nat → Nat}
end Go.Proofs.YthfpmipeejjogaaGreatDoor.Zt

/- What bytes tell is a tree: the pure invariant of dec. -/
namespace Go.Proofs.YthfpmipeejjogaaGreatDoor.Zt
open Go Go.Proofs.YthfpmipeejjogaaGreatDoor.SL Go.Proofs.YthfpmipeejjogaaGreatDoor.G Go.Proofs.YthfpmipeejjogaaGreatDoor.Pa Go.Proofs.YthfpmipeejjogaaGreatDoor.Wi
set_option linter.unusedSimpArgs false
set_option linter.unusedVariables false

/-- behind each node that is laid -/
structure Laid (a : St) (last : Str) : Prop where
  srt : Srt a
  top : ∀ p ∈ a, p.1 ≤ last
  path : ∀ p ∈ a, ∃ ps, parts p.1 = some ps
  up : ∀ k n, a.lookup k = some n → k ≠ [47] → ∃ u m, parent k = some u ∧ a.lookup u = some m ∧ m.own = 0
  kids : ∀ k n, a.lookup k = some n → n.kids = (kc (a.map (·.1)) k : Nat)
  data : ∀ k n, a.lookup k = some n → n.data.length ≤ 256
  nums : ∀ k n, a.lookup k = some n → numsOk n = true ∧ (n.own ≠ 0 → n.ctr = 0) ∧ n.ctr ≤ 10000000000
  rt : ∀ n, a.lookup [47] = some n → n.data = [] ∧ n.ver = 0 ∧ n.own = 0
  root : last ≠ [] → ∃ n, a.lookup [47] = some n
theorem Laid.inv3 {a : St} {last : Str} (h : Laid a last) (hl : last ≠ []) (hk : a.all (fun p => decide (p.2.kids ≤ p.2.ctr)) = true) : Inv3 a := by
  have hn := h.srt.nodup
  refine ⟨⟨hn, h.root hl, fun k n hk' => ?_, h.up, h.kids, fun k n hk' => ?_, h.data⟩, fun k n hk' => ⟨(h.nums k n hk').1, (h.nums k n hk').2.1⟩, h.rt⟩
  · exact h.path _ ((lookup_iff hn).1 hk')
  · have := List.all_eq_true.1 hk _ ((lookup_iff hn).1 hk')
    exact ⟨by simpa using this, (h.nums k n hk').2.2⟩
end Go.Proofs.YthfpmipeejjogaaGreatDoor.Zt

/- The document's list of nodes: what changes do to the list that rises. -/
namespace Go.Proofs.YthfpmipeejjogaaGreatDoor.Zt
open Go Go.Proofs.YthfpmipeejjogaaGreatDoor.SL Go.Proofs.YthfpmipeejjogaaGreatDoor.G Go.Proofs.YthfpmipeejjogaaGreatDoor.Pa Go.Proofs.YthfpmipeejjogaaGreatDoor.Wi
set_option linter.unusedSimpArgs false
set_option linter.unusedVariables false
set_option maxRecDepth 100000
variable {B : World} {ro σ σ' : AH} {tag tag' : Nat → Nat}

/-- without the number of kids -/
def nk (p : Str × Nd) : Str × Nd := (p.1, { p.2 with kids := 0 })
theorem zip_nk (l : St) (ds : List Sl) : List.zipWith nodeV (l.map nk) ds = List.zipWith nodeV l ds := by
  induction l generalizing ds with
  | nil => rfl
  | cons p l ih =>
    cases ds with
    | nil => rfl
    | cons d ds => simp only [List.map_cons, List.zipWith_cons_cons, ih]; rfl
theorem RefIs.nk {r T : Nat} {l l' : St} (h : RefIs tag σ r T l) (e : l.map nk = l'.map nk) : RefIs tag σ r T l' := by
  obtain ⟨s, ds, h1, h2, h3, h4⟩ := h
  have hl := congrArg List.length e
  simp only [List.length_map] at hl
  refine ⟨s, ds, by rw [h1, hl], h2, by rw [← zip_nk, ← e, zip_nk]; exact h3, fun i p d hp hd => ?_⟩
  have h5 : (l.map Zt.nk)[i]? = some (Zt.nk p) := by rw [e, List.getElem?_map, hp]; rfl
  rw [List.getElem?_map] at h5
  obtain ⟨p', hp', ep⟩ := Option.map_eq_some_iff.1 h5
  have := h4 i p' d hp' hd
  rw [show p.2.data = p'.2.data from (congrArg (fun x => x.2.data) ep).symm]
  exact this
theorem modN_nk {a : St} {u : Str} {f g : Nd → Nd} (h : ∀ n, { f n with kids := 0 } = { g n with kids := 0 }) : (modN a u f).map nk = (modN a u g).map nk := by
  unfold modN
  rw [List.map_map, List.map_map]
  refine List.map_congr_left fun p _ => ?_
  simp only [Function.comp]
  split
  · unfold nk; simp only; rw [h]
  · rfl
theorem modN_nk0 {a : St} {u : Str} {f : Nd → Nd} (h : ∀ n, { f n with kids := 0 } = { n with kids := 0 }) : (modN a u f).map nk = a.map nk := by
  unfold modN
  rw [List.map_map]
  refine List.map_congr_left fun p _ => ?_
  simp only [Function.comp]
  split
  · unfold nk; simp only; rw [h]
  · rfl
/-- into the list that rises -/
def ins (x : Str × Nd) : St → St
  | [] => [x]
  | p :: r => if x.1 < p.1 then x :: p :: r else p :: ins x r
theorem ins_perm (x : Str × Nd) : ∀ l : St, (ins x l).Perm (l ++ [x]) := by
  intro l
  induction l with
  | nil => exact List.Perm.refl _
  | cons p r ih =>
    unfold ins
    split
    · exact (List.perm_append_comm (l₁ := [x]) (l₂ := p :: r))
    · exact List.Perm.cons p ih
theorem ins_srt {x : Str × Nd} : ∀ {l : St}, Srt l → (∀ p ∈ l, p.1 ≠ x.1) → Srt (ins x l) := by
  intro l
  induction l with
  | nil => intro _ _; simp [ins, Srt]
  | cons p r ih =>
    intro h hn
    obtain ⟨h1, h2⟩ := List.pairwise_cons.1 h
    unfold ins
    split
    · rename_i c
      refine List.pairwise_cons.2 ⟨fun q hq => ?_, h⟩
      rcases List.mem_cons.1 hq with e | hq
      · rw [e]; exact c
      · exact slt_trans c (h1 q hq)
    · rename_i c
      refine List.pairwise_cons.2 ⟨fun q hq => ?_, ih h2 fun q hq => hn q (by simp [hq])⟩
      have hq := (ins_perm x r).mem_iff.1 hq
      rcases List.mem_append.1 hq with hq | hq
      · exact h1 q hq
      · rw [List.mem_singleton.1 hq]
        refine slt_of_le_ne (Classical.byContradiction fun h => c (snot_le.1 h)) (hn p (by simp))
theorem srt_ins {st : St} {x : Str × Nd} (hk : (st.map (·.1)).Nodup) (hx : st.lookup x.1 = none) : srt (st ++ [x]) = ins x (srt st) := by
  refine (srt_of (ins_srt (srt_srt hk) fun p hp e => ?_) ?_).symm
  · have := (srt_perm st).mem_iff.1 hp
    exact lookup_none hx (by rw [← e]; exact List.mem_map.2 ⟨p, this, rfl⟩)
  · exact (ins_perm x _).trans ((srt_perm st).append_right [x])
theorem srt_keysS {l : St} : Srt l ↔ (l.map (·.1)).Pairwise (· < ·) := by unfold Srt; rw [List.pairwise_map]
theorem srt_mod {st : St} {u : Str} {f : Nd → Nd} (hk : (st.map (·.1)).Nodup) : srt (modN st u f) = modN (srt st) u f := by
  refine (srt_of ?_ (modN_perm (srt_perm st) u f)).symm
  rw [srt_keysS, keys_mod, ← srt_keysS]
  exact srt_srt hk
theorem srt_del {st : St} {q : Str} (hk : (st.map (·.1)).Nodup) : srt (delK st q) = delK (srt st) q := by
  have hk' : ((srt st).map (·.1)).Nodup := (srt_srt hk).nodup
  rw [delK_filter hk, delK_filter hk']
  refine (srt_of ?_ ((srt_perm st).filter _)).symm
  exact List.Pairwise.sublist List.filter_sublist (srt_srt hk)
theorem lookup_srt {st : St} (hk : (st.map (·.1)).Nodup) (k : Str) : (srt st).lookup k = st.lookup k := (lookup_perm (srt_perm st).symm hk k).symm
end Go.Proofs.YthfpmipeejjogaaGreatDoor.Zt

/- The document's tree: lending its blocks, appending a node; the last look of Decode. -/
namespace Go.Proofs.YthfpmipeejjogaaGreatDoor.Zt
open Go Go.Proofs.YthfpmipeejjogaaGreatDoor.SL Go.Proofs.YthfpmipeejjogaaGreatDoor.G Go.Proofs.YthfpmipeejjogaaGreatDoor.Pa Go.Proofs.YthfpmipeejjogaaGreatDoor.Wi
set_option linter.unusedSimpArgs false
set_option linter.unusedVariables false
set_option maxRecDepth 100000
variable {B : World} {ro σ σ' : AH} {tag tag' : Nat → Nat}

theorem app7_ok {r : Nat} {s : Sl} {L : List (List Value)} {x : List Value} {cs : Array Value} {K : Sl → AH → Prop} (h : RowW tag σ r 159 5 s L) (hs : SL.Sep ro σ) (hx : x.length = 5) (hcs : cs.toList = x) (hv : ∀ v ∈ x, storable v = true) (hl : L.length ≤ 4294967296)
    (hK : ∀ s' tag' σ', Step [r] ro tag σ tag' σ' → RowW tag' σ' r 159 5 s' (L ++ [x]) → K s' σ') :
    nw ro σ (.cells cs 159) fun X σ => awp Tryz.prog ro (Builtin.append_ #[155, 155] 155 #[Sl.v s, Sl.v (⟨some ⟨X, 0, none⟩, 1, 1⟩ : Sl)]) (fun v σ => ∃ s' : Sl, v = Sl.v s' ∧ K s' σ) σ := by
  refine nw_cells (tag := tag) 0 hs fun X tag1 σ1 st1 r1 => ?_
  rw [hcs] at r1
  refine awp_appendW (l2 := [x]) (RowW.keep h (st1 []) (by simp)) (st1 []).sep (Row.readW1 r1 (st1 []).sep hx (by decide)) (t := 155) (by kernel_rfl) ty159 rfl (by simpa using hv) (by simp; omega) (by decide) fun s' tag2 σ2 st2 r2 => ?_
  exact ⟨s', rfl, hK s' tag2 σ2 ((st1 [r]).trans (st2 [r] (.inr (by simp)))) r2⟩
end Go.Proofs.YthfpmipeejjogaaGreatDoor.Zt

/- The document's Digits, Suffix, Bad, node; what its Create does to the list that rises (pure). -/
namespace Go.Proofs.YthfpmipeejjogaaGreatDoor.Pa
open Go Go.Proofs.YthfpmipeejjogaaGreatDoor.SL Go.Proofs.YthfpmipeejjogaaGreatDoor.G
set_option linter.unusedSimpArgs false
set_option linter.unusedVariables false
theorem tens_cons : ∀ (k n : Nat), tens (k + 1) n = UInt8.ofNat (48 + n / 10 ^ k % 10) :: tens k n := by
  intro k
  induction k with
  | zero => intro n; simp [tens]
  | succ k ih =>
    intro n
    have e : tens (k + 1) n = tens k (n / 10) ++ [UInt8.ofNat (48 + n % 10)] := rfl
    rw [e, tens, ih, List.cons_append, Nat.div_div_eq_div_mul, Nat.pow_succ, Nat.mul_comm 10]
end Go.Proofs.YthfpmipeejjogaaGreatDoor.Pa
namespace Go.Proofs.YthfpmipeejjogaaGreatDoor.Zt
open Go Go.Proofs.YthfpmipeejjogaaGreatDoor.SL Go.Proofs.YthfpmipeejjogaaGreatDoor.G Go.Proofs.YthfpmipeejjogaaGreatDoor.Pa Go.Proofs.YthfpmipeejjogaaGreatDoor.Wi
set_option linter.unusedSimpArgs false
set_option linter.unusedVariables false
set_option maxRecDepth 100000
variable {B : World} {ro σ σ' : AH} {tag tag' : Nat → Nat}
theorem digits_ok {n : Nat} {Q : ByteArray → AH → Prop} (hn : n < 10000000000) (hQ : ∀ tag' σ', (∀ R, Step R ro tag σ tag' σ') → Q (S (digits (n : Int))) σ') : c_ref02_Digits B ro (n : Int) σ Q := by
  refine ref02_Digits_ok fun hs => ?_
  unfold f_ref02_Digits
  suffices ∀ d i tag1 σ1, i + d = 10 → (∀ R, Step R ro tag σ tag1 σ1) → lfpD (l3_ref02_Digits B ro Q) (((n / 10 ^ i : Nat) : Int), S (tens i n), (i : Int)) σ1 from by
    have := this 10 0 tag σ rfl (fun R => Step.refl hs)
    rw [Nat.pow_zero, Nat.div_one] at this
    exact this
  intro d
  induction d with
  | zero =>
    intro i tag1 σ1 hi st1
    obtain rfl : i = 10 := by omega
    refine lfpD.intro ?_
    unfold l3_ref02_Digits
    simp only
    rw [if_neg (by decide)]
    unfold j1_ref02_Digits
    have := hQ tag1 σ1 st1
    unfold digits at this
    rwa [Int.toNat_natCast] at this
  | succ d ih =>
    intro i tag1 σ1 hi st1
    obtain ⟨m, hm⟩ : ∃ m, n / 10 ^ i = m := ⟨_, rfl⟩
    have hmn : m ≤ n := by rw [← hm]; exact Nat.div_le_self _ _
    have hmod : m % 10 < 10 := Nat.mod_lt _ (by omega)
    rw [hm]
    refine lfpD.intro ?_
    unfold l3_ref02_Digits
    simp only
    rw [if_pos (by omega)]
    refine nw_cells (tag := tag1) 0 (st1 []).sep fun X tag2 σ2 st2 r2 => ?_
    have e1 : IntKind.u8.wrap (IntKind.i64.wrap (48 + Int.tmod (m : Int) 10)) = ((UInt8.ofNat (48 + m % 10)).toNat : Int) := by
      rw [Int.tmod_eq_emod_of_nonneg (by omega), SL.w64_eq (by omega) (by omega), UInt8.toNat_ofNat_of_lt' (by show _ < 256; omega)]
      rw [show (48 + (m : Int) % 10) = ((48 + m % 10 : Nat) : Int) by omega]
      show IntKind.u8.wrap ((48 + m % 10 : Nat) : Int) = _
      unfold IntKind.wrap
      simp [IntKind.bits, IntKind.signed]
      omega
    rw [e1] at r2
    refine awp_b2s (l := [UInt8.ofNat (48 + m % 10)]) (r2.read (st2 []).sep) ?_
    refine ⟨_, rfl, ?_⟩
    have hlen : (tens i n).length = i := tens_len i n
    refine ⟨by rw [S_size, S_size, hlen]; simp; omega, ?_⟩
    rw [S_append, Pa.inc i (by omega)]
    have e2 : IntKind.i64.wrap (Int.tdiv (m : Int) 10) = ((n / 10 ^ (i + 1) : Nat) : Int) := by
      rw [Int.tdiv_eq_ediv_of_nonneg (by omega), SL.w64_eq (by omega) (by omega), Nat.pow_succ, ← Nat.div_div_eq_div_mul, hm]
      omega
    have e3 : [UInt8.ofNat (48 + m % 10)] ++ tens i n = tens (i + 1) n := by rw [tens_cons, hm]; rfl
    rw [e2, e3]
    exact ih (i + 1) tag2 σ2 (by omega) fun R => (st1 R).trans (st2 R)

theorem rsuffix_ok {p : Str} {n : Int} {Q : ByteArray → Bool → AH → Prop} (hs : SL.Sep ro σ) (hnone : suffix p n = none → ∀ tag' σ', Step [] ro tag σ tag' σ' → Q (⟨#[]⟩ : ByteArray) false σ')
    (hsome : ∀ q, suffix p n = some q → ∀ tag' σ', Step [] ro tag σ tag' σ' → Q (S q) true σ') : c_ref02_Suffix B ro (S p) n σ Q := by
  refine ref02_Suffix_ok fun _ => ?_
  unfold f_ref02_Suffix
  refine rparts2_ok (tag := tag) 22 hs (fun hp sl tag1 σ1 st1 => ?_) fun ps hp sl tag1 σ1 st1 r1 => ?_
  · rw [if_pos (by simp)]
    rw [L_S] at hp
    exact hnone (by unfold suffix; rw [hp]) tag1 σ1 st1
  rw [L_S] at hp
  have hln := r1.len
  rw [List.length_map] at hln
  by_cases c : ps = [] ∨ n < 0 ∨ 9999999999 < n
  · rw [if_pos (by
      rcases c with c | c | c
      · exact .inl (.inl (.inr (by rw [hln, c]; rfl)))
      · exact .inl (.inr c)
      · exact .inr c)]
    exact hnone (by unfold suffix; rw [hp]; simp only; rw [if_pos c]) tag1 σ1 st1
  rw [if_neg (by
    rintro (((h | h) | h) | h)
    · exact h rfl
    · exact c (.inl (List.eq_nil_of_length_eq_zero (by omega)))
    · exact c (.inr (.inl h))
    · exact c (.inr (.inr h)))]
  obtain ⟨m, rfl⟩ : ∃ m : Nat, n = m := ⟨n.toNat, by omega⟩
  obtain ⟨hl, hg⟩ := parts_iff.1 hp
  have h128 := hg.len
  rw [← hl] at h128
  have hdl : (digits (m : Int)).length = 10 := tens_len 10 _
  have hsuf : suffix p (m : Int) = if (parts (p ++ digits m)).isSome then some (p ++ digits m) else none := by
    unfold suffix; rw [hp]; simp only; rw [if_neg c]
  refine digits_ok (tag := tag1) (by omega) fun tag2 σ2 st2 => ?_
  refine ⟨by rw [S_size, S_size, hdl]; omega, ?_⟩
  rw [S_append]
  refine rparts2_ok (tag := tag2) 22 (st2 []).sep (fun hq sl2 tag3 σ3 st3 => ?_) fun qs hq sl2 tag3 σ3 st3 _ => ?_
  · rw [if_pos (by simp)]
    rw [L_S] at hq
    exact hnone (by rw [hsuf, hq]; rfl) tag3 σ3 (st1.trans ((st2 []).trans st3))
  · rw [if_neg (by simp)]
    rw [L_S] at hq
    exact hsome _ (by rw [hsuf, hq]; rfl) tag3 σ3 (st1.trans ((st2 []).trans st3))
theorem rbad_ok {n : Int} {Q : Bool → AH → Prop} (hQ : Q ((decide (n < 0)) || (decide (4611686018427387903 < n))) σ) : c_ref01_Bad B ro n σ Q := by
  refine ref01_Bad_ok fun _ => ?_
  unfold f_ref01_Bad
  exact hQ
theorem rnode_ok {T : Nat} {l : St} {p : Str} {v : Int} {Q : Int → Int → AH → Prop} (h : RefM ro σ T l) (hl : l.length ≤ 4294967296) (hmiss : l.lookup p = none → Q 0 70 σ)
    (hver : ∀ n, l.lookup p = some n → v ≠ -1 → v ≠ n.ver → Q 0 72 σ) (hhit : ∀ (j : Nat) n, l[j]? = some (p, n) → l.lookup p = some n → (v = -1 ∨ v = n.ver) → Q (j : Int) 0 σ) : c_ref07_Tree_node B ro (some ⟨T, 0, none⟩) (S p) v σ Q := by
  refine ref07_Tree_node_ok fun _ => ?_
  unfold f_ref07_Tree_node
  refine find7_ok h hl ?_
  rcases fnd_spec (l := l) (k := p) 0 with ⟨e1, e2⟩ | ⟨j, n, e1, e2, e3⟩
  · rw [e2, if_pos (by decide)]
    exact hmiss e1
  · rw [e3, if_neg (by omega), Nat.zero_add]
    by_cases c : v = -1
    · rw [if_neg (by simpa using c)]
      unfold j2_ref07_Tree_node
      rw [if_neg (by simp)]
      exact hhit j n e1 e2 (.inl c)
    · rw [if_pos c]
      obtain ⟨s, b, d, q1, q2, q3, q4⟩ := h.row e1
      have hjl : j < l.length := by
        rcases Nat.lt_or_ge j l.length with h | h
        · exact h
        · rw [List.getElem?_eq_none h] at e1; cases e1
      refine ⟨_, rfl, s, q1, _, q3, by omega, by omega, n.ver, q4 2 _ rfl, ?_⟩
      unfold j2_ref07_Tree_node
      by_cases c2 : v = n.ver
      · rw [if_neg (by simp [c2])]
        exact hhit j n e1 e2 (.inr c2)
      · rw [if_pos (by simp [c2])]
        exact hver n e2 c c2
/-- what the document's Create does -/
def rcr (l : St) (p : Str) (data : Str) (o : Int) (seq : Bool) : St × Str × Int :=
  match parent p with
  | none => (l, [], 20)
  | some u =>
    if 256 < data.length then (l, [], 75)
    else if o < 0 ∨ 4611686018427387903 < o then (l, [], 10)
    else match l.lookup u with
      | none => (l, [], 70)
      | some n =>
        if n.own ≠ 0 then (l, [], 74)
        else if 9999999999 < n.ctr then (l, [], 76)
        else match (if seq then suffix p n.ctr else some p) with
          | none => (l, [], 20)
          | some q => if (l.lookup q).isSome then (l, [], 71) else (ins (q, ⟨0, 0, o, 0, data⟩) (modN l u bump), q, 0)
theorem modN_ins {x : Str × Nd} {u : Str} {f : Nd → Nd} (h : x.1 ≠ u) : ∀ l : St, modN (ins x l) u f = ins x (modN l u f) := by
  intro l
  induction l with
  | nil => unfold modN ins; simp [h]
  | cons p l ih =>
    have e : ∀ (y : Str × Nd) (m : St), modN (y :: m) u f = (if y.1 = u then (y.1, f y.2) else y) :: modN m u f := fun _ _ => rfl
    have k : (if p.1 = u then (p.1, f p.2) else p).1 = p.1 := by split <;> rfl
    unfold ins
    rw [e]
    simp only [k]
    by_cases c : x.1 < p.1
    · rw [if_pos c, if_pos c, e, if_neg h, e]
    · rw [if_neg c, if_neg c, e, ih]
theorem rcr_srt {st : St} (hk : (st.map (·.1)).Nodup) (p d : Str) (o : Int) (seq : Bool) : rcr (srt st) p d o seq = (srt (create st p d o seq).1, (create st p d o seq).2) := by
  unfold rcr create
  cases parent p with
  | none => rfl
  | some u =>
    simp only
    rw [lookup_srt hk]
    split
    · rfl
    split
    · rfl
    cases hu : st.lookup u with
    | none => rfl
    | some n =>
      simp only
      split
      · rfl
      split
      · rfl
      cases (if seq = true then suffix p n.ctr else some p) with
      | none => rfl
      | some q =>
        simp only
        rw [lookup_srt hk]
        split
        · rfl
        · rename_i hq
          have hq' : st.lookup q = none := by
            cases e : st.lookup q with
            | none => rfl
            | some m => rw [e] at hq; exact absurd rfl hq
          have hqu : q ≠ u := fun e => by rw [e, hu] at hq'; cases hq'
          have hk2 : ((st ++ [(q, (⟨0, 0, o, 0, d⟩ : Nd))]).map (·.1)).Nodup := by
            rw [List.map_append, List.nodup_append]
            refine ⟨hk, by simp, ?_⟩
            intro x hx y hy e
            simp at hy
            exact lookup_none hq' (by rw [← hy, ← e]; exact hx)
          simp only [Prod.mk.injEq, and_true]
          rw [srt_mod hk2, srt_ins hk hq', modN_ins hqu]
end Go.Proofs.YthfpmipeejjogaaGreatDoor.Zt

/- The document's list of nodes: a list that is made anew takes the tree's place. -/
namespace Go.Proofs.YthfpmipeejjogaaGreatDoor.Zt
open Go Go.Proofs.YthfpmipeejjogaaGreatDoor.SL Go.Proofs.YthfpmipeejjogaaGreatDoor.G Go.Proofs.YthfpmipeejjogaaGreatDoor.Pa Go.Proofs.YthfpmipeejjogaaGreatDoor.Wi
set_option linter.unusedSimpArgs false
set_option linter.unusedVariables false
set_option maxRecDepth 100000
variable {B : World} {ro σ σ' : AH} {tag tag' : Nat → Nat}

/-- a list of nodes that is being made: a row of role 139 (class 11), data in rows of data -/
def OutAt (tag : Nat → Nat) (σ : AH) (s : Sl) (L : St) : Prop := ∃ ds : List Sl, ds.length = L.length ∧ RowW tag σ 139 159 5 s (List.zipWith nodeV L ds) ∧ ∀ (i : Nat) (p : Str × Nd) (d : Sl), L[i]? = some p → ds[i]? = some d → Row tag σ 6 5 d (p.2.data.map vU)
theorem OutAt.nil : OutAt tag σ ⟨none, 0, 0⟩ [] := ⟨[], rfl, RowW.nil _ _ _, fun i p d h => by cases h⟩
theorem OutAt.keep {R : List Nat} {s : Sl} {L : St} (h : OutAt tag σ s L) (k : Step R ro tag σ tag' σ') (h1 : 139 ∉ R) (h6 : 6 ∉ R) : OutAt tag' σ' s L := by
  obtain ⟨ds, a, b, c⟩ := h
  exact ⟨ds, a, RowW.keep b k h1, fun i p d hp hd => (c i p d hp hd).keep k h6⟩
theorem OutAt.keepS {C : List Nat} {s : Sl} {L : St} (h : OutAt tag σ s L) (k : StepS C ro tag σ tag' σ') (h1 : 11 ∉ C) (h6 : 6 ∉ C) : OutAt tag' σ' s L := by
  obtain ⟨R, hR, k⟩ := k
  exact h.keep k (fun m => h1 (hR _ m)) fun m => h6 (hR _ m)
theorem RefIs.keep {R : List Nat} {r T : Nat} {l : St} (h : RefIs tag σ r T l) (k : Step R ro tag σ tag' σ') (h1 : r ∉ R) (h2 : r + 64 ∉ R) (h6 : 6 ∉ R) : RefIs tag' σ' r T l := by
  obtain ⟨s, ds, g1, g2, g3, g4⟩ := h
  exact ⟨s, ds, g1, g2.keep k h1, RowW.keep g3 k h2, fun i p d hp hd => (g4 i p d hp hd).keep k h6⟩
theorem rows_app {L M : St} {ds es : List Sl} (hl : ds.length = L.length) (h1 : ∀ (i : Nat) (p : Str × Nd) (d : Sl), L[i]? = some p → ds[i]? = some d → Row tag σ 6 5 d (p.2.data.map vU)) (h2 : ∀ (i : Nat) (p : Str × Nd) (d : Sl), M[i]? = some p → es[i]? = some d → Row tag σ 6 5 d (p.2.data.map vU)) :
    ∀ (i : Nat) (p : Str × Nd) (d : Sl), (L ++ M)[i]? = some p → (ds ++ es)[i]? = some d → Row tag σ 6 5 d (p.2.data.map vU) := fun i p d hp hd => by
  rcases Nat.lt_or_ge i L.length with hi | hi
  · rw [List.getElem?_append_left hi] at hp
    rw [List.getElem?_append_left (by omega)] at hd
    exact h1 i p d hp hd
  · rw [List.getElem?_append_right hi] at hp
    rw [List.getElem?_append_right (by omega), hl] at hd
    exact h2 _ p d hp hd
theorem out_app {s d : Sl} {L : St} {p : Str × Nd} {cs : Array Value} {K : Sl → AH → Prop} (h : OutAt tag σ s L) (hs : SL.Sep ro σ) (hd : Row tag σ 6 5 d (p.2.data.map vU)) (hcs : cs.toList = nodeV p d) (hl : L.length ≤ 4294967296)
    (hK : ∀ s' tag' σ', Step [139] ro tag σ tag' σ' → OutAt tag' σ' s' (L ++ [p]) → K s' σ') :
    nw ro σ (.cells cs 159) fun X σ => awp Tryz.prog ro (Builtin.append_ #[155, 155] 155 #[Sl.v s, Sl.v (⟨some ⟨X, 0, none⟩, 1, 1⟩ : Sl)]) (fun v σ => ∃ s' : Sl, v = Sl.v s' ∧ K s' σ) σ := by
  obtain ⟨ds, a, b, c⟩ := h
  refine app7_ok b hs rfl hcs (by simp [nodeV, storable, Sl.v]) (by rw [List.length_zipWith, a, Nat.min_self]; exact hl) fun s' tag1 σ1 st1 r1 => ?_
  refine hK s' tag1 σ1 st1 ⟨ds ++ [d], by simp [a], by rw [List.zipWith_append a.symm]; exact r1, rows_app a (fun i p d hp hd => (c i p d hp hd).keep st1 (by decide)) fun i p' d' hp hd' => ?_⟩
  cases i with
  | zero => cases hp; cases hd'; exact hd.keep st1 (by decide)
  | succ k => cases hp
/-- no role of a list that is being made -/
def tag0 (tag : Nat → Nat) : Nat → Nat := fun c => if tag c = 139 then 203 else tag c
theorem RefIs.tag0 {T : Nat} {l : St} (h : RefIs tag σ 11 T l) : RefIs (Zt.tag0 tag) σ 11 T l := by
  have k : ∀ c q, q ≠ 139 → tag c = q → Zt.tag0 tag c = q := fun c q h1 h2 => by unfold Zt.tag0; rw [if_neg (by omega)]; exact h2
  obtain ⟨s, ds, g1, g2, g3, g4⟩ := h
  exact ⟨s, ds, g1, Row.retag g2 fun c hc _ => k c _ (by decide) hc, RowW.retag g3 fun c hc _ => k c _ (by decide) hc, fun i p d hp hd => Row.retag (g4 i p d hp hd) fun c hc _ => k c _ (by decide) hc⟩
theorem Row.tag0 {r : Nat} {e : TypeId} {s : Sl} {l : List Value} (h : Row tag σ r e s l) (hr : r ≠ 139) : Row (Zt.tag0 tag) σ r e s l :=
  Row.retag h fun c hc _ => by unfold Zt.tag0; rw [if_neg (by omega)]; exact hc
theorem ref_swap {C : List Nat} {T : Nat} {s : Sl} {l : St} {tagE : Nat → Nat} {σE : AH} (hC : 11 ∈ C) (hT : ∃ o, σ T = some o) (st : StepS C ro (tag0 tag) σ tagE σE) (h2 : Row tagE σE 11 157 ⟨some ⟨T, 0, none⟩, 1, 1⟩ [Sl.v s]) (h3 : OutAt tagE σE s l) :
    ∃ tagF, StepS C ro tag σ tagF σE ∧ RefIs tagF σE 11 T l := by
  obtain ⟨R, hR, st⟩ := st
  obtain ⟨ds, a, b, c⟩ := h3
  have old : ∀ x, σ x ≠ none → tagE x = tag0 tag x := fun x hx => by
    cases h : σ x with
    | none => exact absurd h hx
    | some o => exact (st.old x o h).1
  let tagF : Nat → Nat := fun x => if σ x ≠ none then tag x else if tagE x = 139 then 75 else tagE x
  have hF : ∀ x, tagE x ≠ 139 → tagE x ≠ 203 → tagF x = tagE x := fun x h1 h2 => by
    simp only [tagF]
    by_cases hx : σ x ≠ none
    · rw [if_pos hx]
      have := old x hx
      unfold tag0 at this
      by_cases ht : tag x = 139
      · rw [if_pos ht] at this; exact absurd this h2
      · rw [if_neg ht] at this; exact this.symm
    · rw [if_neg hx, if_neg h1]
  have hF2 : ∀ x, tagE x = 139 → tagF x = 75 := fun x h1 => by
    simp only [tagF]
    by_cases hx : σ x ≠ none
    · have := old x hx
      unfold tag0 at this
      rw [h1] at this
      by_cases ht : tag x = 139
      · rw [if_pos ht] at this; cases this
      · rw [if_neg ht] at this; exact absurd this.symm ht
    · rw [if_neg hx, if_pos h1]
  refine ⟨tagF, ⟨139 :: R, fun x hx => ?_, fun x o hx hn => ?_, fun x o hx => ?_, st.sep⟩, s, ds, a, ?_, ?_, fun i p d hp hd => ?_⟩
  · rcases List.mem_cons.1 hx with rfl | hx
    · exact hC
    · exact hR x hx
  · have hx' : σ x ≠ none := by rw [hx]; simp
    simp only [List.mem_cons, not_or] at hn
    have e : tag0 tag x = tag x := by unfold tag0; rw [if_neg hn.1]
    exact ⟨by simp only [tagF]; rw [if_pos hx'], (st.keep x o hx (by rw [e]; exact hn.2)).2⟩
  · have hx' : σ x ≠ none := by rw [hx]; simp
    exact ⟨by simp only [tagF]; rw [if_pos hx'], (st.old x o hx).2⟩
  · exact Row.retag h2 fun x hx _ => by rw [hF x (by omega) (by omega), hx]
  · rcases b with b | ⟨y, cs, ha, ht, hx⟩
    · exact .inl b
    · exact .inr ⟨y, cs, ha, hF2 y ht, hx⟩
  · exact Row.retag (c i p d hp hd) fun x hx _ => by rw [hF x (by omega) (by omega), hx]
theorem RefIs.row {r T j : Nat} {l : St} {p : Str × Nd} (h : RefIs tag σ r T l) (hs : SL.Sep ro σ) (hj : l[j]? = some p) : ∃ (s : Sl) (b : Nat) (d : Sl), acell ro σ ⟨T, 0, none⟩ = some (Sl.v s) ∧ s.len = l.length ∧ s.a = some ⟨b, 0, none⟩ ∧
    (∀ i v, (nodeV p d)[i]? = some v → acell ro σ (((⟨b, 0, none⟩ : Addr).add (Int.toNat (j : Int) * 5)).add i) = some v) ∧ Row tag σ 6 5 d (p.2.data.map vU) := by
  obtain ⟨s, ds, g1, g2, g3, g4⟩ := h
  have hjl : j < l.length := by
    rcases Nat.lt_or_ge j l.length with h | h
    · exact h
    · rw [List.getElem?_eq_none h] at hj; cases hj
  have hd : ds[j]? = some ds[j] := List.getElem?_eq_getElem (by omega)
  obtain ⟨b, ha, _, hcell⟩ := RowW.get g3 hs (j := j) (x := nodeV p ds[j]) (by rw [List.getElem?_zipWith, hj, hd])
  have hln := g3.len
  rw [List.length_zipWith, g1, Nat.min_self] at hln
  exact ⟨s, b, ds[j], Row.cell1 g2 hs, hln, ha, fun i v hv => by rw [Int.toNat_natCast, add_add, add_add, Nat.zero_add]; exact hcell i v hv, g4 j p _ hj hd⟩
/-- a cell of a node that is stored -/
theorem RefIs.stn {r T j i : Nat} {l : St} {k : Str} {n n' : Nd} {v : Value} {K : AH → Prop} (h : RefIs tag σ r T l) (hs : SL.Sep ro σ) (hj : l[j]? = some (k, n)) (hi : i < 5) (hset : ∀ d, (nodeV (k, n) d).set i v = nodeV (k, n') d) (hdt : n'.data = n.data) (hv : storable v = true)
    (hK : ∀ σ', Step [r + 64] ro tag σ tag σ' → RefIs tag σ' r T (l.set j (k, n')) → K σ') : ∃ (s : Sl) (b : Nat) (d : Sl), acell ro σ ⟨T, 0, none⟩ = some (Sl.v s) ∧ s.a = some ⟨b, 0, none⟩ ∧ s.len = l.length ∧ (∀ i v, (nodeV (k, n) d)[i]? = some v → acell ro σ (((⟨b, 0, none⟩ : Addr).add (Int.toNat (j : Int) * 5)).add i) = some v) ∧ stN (((⟨b, 0, none⟩ : Addr).add (Int.toNat (j : Int) * 5)).add i) K [v] 0 σ := by
  obtain ⟨s, ds, g1, g2, g3, g4⟩ := h
  have hjl : j < l.length := by
    rcases Nat.lt_or_ge j l.length with h | h
    · exact h
    · rw [List.getElem?_eq_none h] at hj; cases hj
  have hd : ds[j]? = some ds[j] := List.getElem?_eq_getElem (by omega)
  have hz : (List.zipWith nodeV l ds)[j]? = some (nodeV (k, n) ds[j]) := by rw [List.getElem?_zipWith, hj, hd]
  obtain ⟨b, ha, _, hcell⟩ := RowW.get g3 hs hz
  have hln := g3.len
  rw [List.length_zipWith, g1, Nat.min_self] at hln
  refine ⟨s, b, ds[j], Row.cell1 g2 hs, ha, hln, fun i v hv => by rw [Int.toNat_natCast, add_add, add_add, Nat.zero_add]; exact hcell i v hv, ?_⟩
  rw [Int.toNat_natCast, add_add, add_add, Nat.zero_add]
  refine RowW.st g3 hs ha hz hi hv fun σ1 st1 r1 => hK σ1 st1 ⟨s, ds, by rw [List.length_set, g1], g2.keep st1 (by simp), ?_, fun i' p d hp hd' => ?_⟩
  · rw [hset] at r1
    have e : (List.zipWith nodeV l ds).set j (nodeV (k, n') ds[j]) = List.zipWith nodeV (l.set j (k, n')) ds := by
      apply List.ext_getElem?
      intro m
      rw [List.getElem?_zipWith, List.getElem?_set, List.getElem?_set, List.getElem?_zipWith, List.length_zipWith]
      by_cases c : j = m
      · subst c; rw [if_pos rfl, if_pos rfl, if_pos (show j < min l.length ds.length by omega), if_pos hjl, hd]
      · rw [if_neg c, if_neg c]
    rw [← e]; exact r1
  · rw [List.getElem?_set] at hp
    by_cases c : j = i'
    · subst c
      rw [if_pos rfl, if_pos hjl] at hp
      cases hp
      have := g4 j _ d hj hd'
      simp only at this ⊢
      rw [hdt]
      exact this.keep st1 (by simp)
    · rw [if_neg c] at hp
      exact (g4 i' p d hp hd').keep st1 (by simp)
end Go.Proofs.YthfpmipeejjogaaGreatDoor.Zt

/- The document's Create. -/
namespace Go.Proofs.YthfpmipeejjogaaGreatDoor.Zt
open Go Go.Proofs.YthfpmipeejjogaaGreatDoor.SL Go.Proofs.YthfpmipeejjogaaGreatDoor.G Go.Proofs.YthfpmipeejjogaaGreatDoor.Pa Go.Proofs.YthfpmipeejjogaaGreatDoor.Wi
set_option linter.unusedSimpArgs false
set_option linter.unusedVariables false
set_option maxRecDepth 100000
variable {B : World} {ro σ σ' : AH} {tag tag' : Nat → Nat}

theorem ins_cons (x p : Str × Nd) (r : St) : ins x (p :: r) = if x.1 < p.1 then x :: p :: r else p :: ins x r := rfl
theorem ins_nk (x : Str × Nd) : ∀ l : St, (ins x l).map nk = ins (nk x) (l.map nk) := by
  intro l
  induction l with
  | nil => rfl
  | cons p l ih =>
    rw [List.map_cons]
    unfold ins
    by_cases c : x.1 < p.1
    · rw [if_pos c, if_pos (show (nk x).1 < (nk p).1 from c)]; rfl
    · rw [if_neg c, if_neg (show ¬ (nk x).1 < (nk p).1 from c), List.map_cons, ih]
theorem rcreate_ok {T : Nat} {l : St} {p : Str} {s : Sl} {d : Str} {o : Int} {seq : Bool} {Q : ByteArray → Int → AH → Prop} (h : RefIs tag σ 11 T l) (hk : (l.map (·.1)).Nodup) (hl : l.length ≤ 4294967290) (hd : SL.Read ro (fun _ => none) s (d.map vU))
    (hQ : ∀ tag' σ', StepS [11] ro tag σ tag' σ' → RefIs tag' σ' 11 T (rcr l p d o seq).1 → Q (S (rcr l p d o seq).2.1) (rcr l p d o seq).2.2 σ') : c_ref07_Tree_Create B ro (some ⟨T, 0, none⟩) (S p) s o seq σ Q := by
  refine ref07_Tree_Create_ok fun hs => ?_
  unfold f_ref07_Tree_Create
  have hsl : s.len = d.length := by rw [hd.1, List.length_map]
  have same : ∀ (e : Int) (tag1 : Nat → Nat) (σ1 : AH), Step [] ro tag σ tag1 σ1 → rcr l p d o seq = (l, [], e) → Q (⟨#[]⟩ : ByteArray) e σ1 := fun e tag1 σ1 st1 he => by
    have := hQ tag1 σ1 (st1.s (by simp)) (by rw [he]; exact h.keep st1 (by simp) (by simp) (by simp))
    rw [he] at this; exact this
  have st0 : Step [] ro tag σ tag σ := Step.refl hs
  refine rparent_ok (fun hp => ?_) fun u hu => ?_
  · rw [if_pos (by simp)]
    rw [L_S] at hp
    exact same 20 tag σ st0 (by unfold rcr; rw [hp])
  rw [L_S] at hu
  rw [if_neg (by simp)]
  by_cases c1 : 256 < d.length
  · rw [if_pos (by omega)]
    exact same 75 tag σ st0 (by unfold rcr; rw [hu]; simp only; rw [if_pos c1])
  rw [if_neg (by omega)]
  refine rbad_ok ?_
  by_cases c2 : o < 0 ∨ 4611686018427387903 < o
  · rw [if_pos (by simpa using c2)]
    exact same 10 tag σ st0 (by unfold rcr; rw [hu]; simp only; rw [if_neg c1, if_pos c2])
  rw [if_neg (by simpa using c2)]
  refine find7_ok (h.m hs) (by omega) ?_
  rcases fnd_spec (l := l) (k := u) 0 with ⟨e1, e2⟩ | ⟨j, n, e1, e2, e3⟩
  · rw [e2, if_pos (by decide)]
    exact same 70 tag σ st0 (by unfold rcr; rw [hu]; simp only; rw [if_neg c1, if_neg c2, e1])
  rw [e3, if_neg (by omega), Nat.zero_add]
  have hjl : j < l.length := by
    rcases Nat.lt_or_ge j l.length with h | h
    · exact h
    · rw [List.getElem?_eq_none h] at e1; cases e1
  obtain ⟨s1, b1, d1, q1, q2, q3, q4⟩ := (h.m hs).row e1
  refine ⟨_, rfl, s1, q1, _, q3, by omega, by omega, n.own, q4 4 _ rfl, ?_⟩
  by_cases c3 : n.own ≠ 0
  · rw [if_pos c3]
    exact same 74 tag σ st0 (by unfold rcr; rw [hu]; simp only; rw [if_neg c1, if_neg c2, e2]; simp only; rw [if_pos c3])
  rw [if_neg c3]
  refine ⟨_, rfl, s1, q1, _, q3, by omega, by omega, n.ctr, q4 3 _ rfl, ?_⟩
  by_cases c4 : 9999999999 < n.ctr
  · rw [if_pos c4]
    exact same 76 tag σ st0 (by unfold rcr; rw [hu]; simp only; rw [if_neg c1, if_neg c2, e2]; simp only; rw [if_neg c3, if_pos c4])
  rw [if_neg c4]
  have hr : rcr l p d o seq = match (if seq then suffix p n.ctr else some p) with
      | none => (l, [], 20)
      | some q => if (l.lookup q).isSome then (l, [], 71) else (ins (q, ⟨0, 0, o, 0, d⟩) (modN l u bump), q, 0) := by
    conv => lhs; unfold rcr
    rw [hu]; simp only; rw [if_neg c1, if_neg c2, e2]; simp only; rw [if_neg c3, if_neg c4]
    all_goals (cases (if seq = true then suffix p n.ctr else some p) <;> rfl)
  have main : ∀ (q : Str) (tag1 : Nat → Nat) (σ1 : AH), (if seq then suffix p n.ctr else some p) = some q → Step [] ro tag σ tag1 σ1 → j13_ref07_Tree_Create B ro (some ⟨T, 0, none⟩) s o (j : Int) Q (S q) σ1 := by
    intro q tag1 σ1 hq st1
    rw [hq] at hr
    simp only at hr
    have h1 := h.keep st1 (by simp) (by simp) (by simp)
    have hs1 := st1.sep
    unfold j13_ref07_Tree_Create
    refine find7_ok (h1.m hs1) (by omega) ?_
    rcases (fnd_spec (l := l) (k := q) 0).symm with ⟨j', m, f1, f2, f3⟩ | ⟨f1, f2⟩
    · rw [f3, if_pos (by omega)]
      exact same 71 tag1 σ1 st1 (by rw [hr, f2]; rfl)
    rw [f2, if_neg (by decide)]
    rw [f1] at hr
    simp only [Option.isSome_none, Bool.false_eq_true, if_false] at hr
    obtain ⟨l1, hl1⟩ : ∃ l1, l.set j (u, { n with ctr := IntKind.i64.wrap (n.ctr + 1) }) = l1 := ⟨_, rfl⟩
    obtain ⟨x, hx⟩ : ∃ x : Str × Nd, (q, (⟨0, 0, o, 0, d⟩ : Nd)) = x := ⟨_, rfl⟩
    have hll : l1.length = l.length := by rw [← hl1, List.length_set]
    have el1 : modN l u (fun n => { n with ctr := IntKind.i64.wrap (n.ctr + 1) }) = l1 := by rw [← hl1]; exact modN_set hk e1 _
    have hnk : (ins x l1).map nk = (ins x (modN l u bump)).map nk := by
      rw [ins_nk, ins_nk, ← el1]
      congr 1
      exact modN_nk fun n => rfl
    have hTo : ∃ o, σ1 T = some o := by
      obtain ⟨_, _, _, g2, _⟩ := h1
      exact g2.tagOf.2
    -- the end
    have fin : ∀ (out : Sl) (tag3 : Nat → Nat) (σ3 : AH), StepS [11] ro (tag0 tag1) σ1 tag3 σ3 → RefIs tag3 σ3 11 T l1 → OutAt tag3 σ3 out (ins x l1) → j24_ref07_Tree_Create B ro (some ⟨T, 0, none⟩) (S q) Q out σ3 := by
      intro out tag3 σ3 st3 h3 o3
      unfold j24_ref07_Tree_Create
      refine ⟨_, rfl, ?_⟩
      obtain ⟨s3, ds, g1, g2, g3, g4⟩ := h3
      refine g2.st (i := 0) st3.sep rfl (by simp) rfl fun σ4 st4 r4 => ?_
      obtain ⟨tagF, sF, rF⟩ := ref_swap (C := [11]) (by decide) hTo (st3.trans (st4.s (by decide))) r4 (o3.keep st4 (by decide) (by decide))
      have := hQ tagF σ4 ((st1.s (by simp)).trans sF) (by rw [hr, hx]; exact rF.nk hnk)
      rw [hr] at this; exact this
    have key := RefIs.stn (i := 3) (v := .int .i64 (IntKind.i64.wrap (n.ctr + 1))) (n' := { n with ctr := IntKind.i64.wrap (n.ctr + 1) }) (K := fun σ => lfpD (l30_ref07_Tree_Create B ro (some ⟨T, 0, none⟩) s o (S q) Q) ((⟨none, 0, 0⟩ : Sl), false, 0) σ)
      h1.tag0 hs1 e1 (by decide) (fun d => rfl) rfl rfl fun σ2 st2 h2 => by
        rw [hl1] at h2
        suffices ∀ (m k : Nat) (put : Bool) (out : Sl) (L : St) (tag3 : Nat → Nat) (σ3 : AH), k + m = l1.length → ins x l1 = L ++ (if put then l1.drop k else ins x (l1.drop k)) → L.length ≤ k + 1 → (put = false → L.length ≤ k) → StepS [11] ro (tag0 tag1) σ1 tag3 σ3 → RefIs tag3 σ3 11 T l1 → OutAt tag3 σ3 out L → lfpD (l30_ref07_Tree_Create B ro (some ⟨T, 0, none⟩) s o (S q) Q) (out, put, (k : Int)) σ3 from
          this l1.length 0 false _ [] (tag0 tag1) σ2 (Nat.zero_add _) rfl (Nat.zero_le _) (fun _ => Nat.zero_le _) (st2.s (by decide)) h2 OutAt.nil
        intro m
        induction m with
        | zero =>
          intro k put out L tag3 σ3 hkm hi hL hL0 st3 h3 o3
          obtain ⟨s3, e4, e5⟩ := (h3.m st3.sep).len
          have hdr : l1.drop k = [] := List.drop_of_length_le (by omega)
          rw [hdr] at hi
          refine lfpD.intro ?_
          unfold l30_ref07_Tree_Create
          simp only
          refine ⟨_, rfl, s3, e4, ?_⟩
          rw [if_neg (by omega)]
          unfold j21_ref07_Tree_Create
          cases put with
          | true =>
            rw [if_neg (by simp)]
            rw [if_pos rfl, List.append_nil] at hi
            rw [← hi] at o3
            exact fin out tag3 σ3 st3 h3 o3
          | false =>
            rw [if_pos (by simp)]
            rw [if_neg (by simp)] at hi
            refine copy_ok (tag := tag3) hd.keep st3.sep (by simp; omega) (fun v hv => by obtain ⟨c, _, rfl⟩ := List.mem_map.1 hv; rfl) fun d4 tag4 σ4 st4 r4 => ?_
            have o4 := o3.keep (st4 []) (by simp) (by simp)
            have h4 := h3.keep (st4 []) (by simp) (by simp) (by simp)
            refine out_app (p := x) (d := d4) o4 (st4 []).sep (by rw [← hx]; exact r4) (by rw [← hx]; rfl) (by omega) fun s5 tag5 σ5 st5 o5 => ?_
            exact fin s5 tag5 σ5 (st3.trans (((st4 []).s (by simp)).trans (st5.s (by decide)))) (h4.keep st5 (by decide) (by decide) (by decide)) (by rw [hi]; exact o5)
        | succ m ih =>
          intro k put out L tag3 σ3 hkm hi hL hL0 st3 h3 o3
          have hkl : k < l1.length := by omega
          have hek := List.getElem?_eq_getElem hkl
          have hdr : l1.drop k = l1[k] :: l1.drop (k + 1) := List.drop_eq_getElem_cons hkl
          rw [hdr] at hi
          obtain ⟨s3, b3, d3, e4, e5, e6, e7, e8⟩ := h3.row st3.sep hek
          have next : ∀ (put : Bool) (out : Sl) (L : St) (tag4 : Nat → Nat) (σ4 : AH), ins x l1 = L ++ l1[k] :: (if put then l1.drop (k + 1) else ins x (l1.drop (k + 1))) → L.length ≤ k + 1 → (put = false → L.length ≤ k) → StepS [11] ro (tag0 tag1) σ1 tag4 σ4 → RefIs tag4 σ4 11 T l1 → OutAt tag4 σ4 out L →
              j36_ref07_Tree_Create B ro (some ⟨T, 0, none⟩) s o (S q) (k : Int) Q (lfpD (l30_ref07_Tree_Create B ro (some ⟨T, 0, none⟩) s o (S q) Q)) out put σ4 := by
            intro put out L tag4 σ4 hi hL hL0 st4 h4 o4
            obtain ⟨s4, b4, d4, e4, e5, e6, e7, e8⟩ := h4.row st4.sep hek
            unfold j36_ref07_Tree_Create
            refine ⟨_, rfl, s4, e4, _, e6, by omega, by omega, _, _, _, _, _, cellsAt_of 0 fun i v hv => by rw [Nat.zero_add]; exact e7 i v hv, ?_⟩
            refine out_app (p := l1[k]) (d := d4) o4 st4.sep e8 rfl (by omega) fun s5 tag5 σ5 st5 o5 => ?_
            rw [Pa.inc k (by omega)]
            refine ih (k + 1) put s5 (L ++ [l1[k]]) tag5 σ5 (by omega) (by rw [hi, List.append_assoc]; rfl) (by simp; omega) (fun hp => by have := hL0 hp; simp; omega) (st4.trans (st5.s (by decide))) (h4.keep st5 (by decide) (by decide) (by decide)) o5
          refine lfpD.intro ?_
          unfold l30_ref07_Tree_Create
          simp only
          refine ⟨_, rfl, s3, e4, ?_⟩
          rw [if_pos (by omega)]
          cases put with
          | true =>
            rw [if_neg (by simp)]
            unfold j45_ref07_Tree_Create
            rw [if_neg (by simp)]
            exact next true out L tag3 σ3 (by rw [hi]; rfl) hL hL0 st3 h3 o3
          | false =>
            rw [if_pos (by simp)]
            rw [if_neg (by simp)] at hi
            refine ⟨_, rfl, s3, e4, _, e6, by omega, by omega, S l1[k].1, by have := e7 0 _ rfl; rwa [add_zero] at this, ?_⟩
            rw [ins_cons] at hi
            have ex : x.1 = q := by rw [← hx]
            by_cases c : q < l1[k].1
            · rw [show lessS (S q) (S l1[k].1) = true from (lessS_iff _ _).2 (by rw [L_S, L_S]; exact c)]
              unfold j45_ref07_Tree_Create
              rw [if_pos rfl]
              refine copy_ok (tag := tag3) hd.keep st3.sep (by simp; omega) (fun v hv => by obtain ⟨c, _, rfl⟩ := List.mem_map.1 hv; rfl) fun d4 tag4 σ4 st4 r4 => ?_
              have o4 := o3.keep (st4 []) (by simp) (by simp)
              have h4 := h3.keep (st4 []) (by simp) (by simp) (by simp)
              refine out_app (p := x) (d := d4) o4 (st4 []).sep (by rw [← hx]; exact r4) (by rw [← hx]; rfl) (by omega) fun s5 tag5 σ5 st5 o5 => ?_
              rw [if_pos (by rw [ex]; exact c)] at hi
              exact next true s5 (L ++ [x]) tag5 σ5 (by rw [hi, List.append_assoc]; rfl) (by have := hL0 rfl; simp; omega) (fun h => by cases h) (st3.trans (((st4 []).s (by simp)).trans (st5.s (by decide)))) (h4.keep st5 (by decide) (by decide) (by decide)) o5
            · rw [show lessS (S q) (S l1[k].1) = false from by
                rw [← Bool.not_eq_true, lessS_iff, L_S, L_S]; exact c]
              unfold j45_ref07_Tree_Create
              rw [if_neg (by simp)]
              rw [if_neg (by rw [ex]; exact c)] at hi
              exact next false out L tag3 σ3 (by rw [hi]; rfl) hL hL0 st3 h3 o3
    obtain ⟨s2, b2, d2, g1, g2, g3, g4, g5⟩ := key
    exact ⟨_, rfl, s2, g1, _, g2, by omega, by omega, n.ctr, g4 3 _ rfl, _, g2, by omega, by omega, g5⟩
  cases seq with
  | true =>
    rw [if_pos rfl]
    refine ⟨_, rfl, s1, q1, _, q3, by omega, by omega, n.ctr, q4 3 _ rfl, ?_⟩
    refine rsuffix_ok (tag := tag) hs (fun hq tag1 σ1 st1 => ?_) fun q hq tag1 σ1 st1 => ?_
    · rw [if_pos (by simp)]
      exact same 20 tag1 σ1 st1 (by rw [hr, if_pos rfl, hq])
    · rw [if_neg (by simp)]
      exact main q tag1 σ1 (by rw [if_pos rfl]; exact hq) st1
  | false =>
    rw [if_neg (by simp)]
    exact main p tag σ (by simp) st0
end Go.Proofs.YthfpmipeejjogaaGreatDoor.Zt

/- The document's New, Delete, Set. -/
namespace Go.Proofs.YthfpmipeejjogaaGreatDoor.SL
open Go
variable {ro σ σ' : AH} {tag tag' : Nat → Nat}
theorem ReadW.cut {w lo n c : Nat} {s : Sl} {L : List (List Value)} (h : ReadW ro σ w s L) (hc : s.len ≤ s.cap) (hn : lo + n ≤ L.length) : ReadW ro σ w ⟨cutA s.a lo s.cap w, n, c⟩ ((L.drop lo).take n) := by
  obtain ⟨h1, h2, h3, h4⟩ := h
  refine ⟨by simp; omega, fun ha => ?_, fun x hx => h3 x (List.mem_of_mem_drop (List.mem_of_mem_take hx)), fun p hp i v hv => ?_⟩
  · unfold cutA at ha
    split at ha
    · have : L = [] := h2 ha
      rw [this]; simp
    · cases e : s.a with
      | none => rw [h2 e]; simp
      | some x => rw [e] at ha; cases ha
  · unfold cutA at hp
    split at hp
    · have : n = 0 := by omega
      subst this
      cases hv
    · cases e : s.a with
      | none => rw [e] at hp; cases hp
      | some x =>
        rw [e] at hp
        simp only [Option.map_some, Option.some.injEq] at hp
        subst hp
        rw [addr_add]
        refine h4 x e _ v ?_
        have k1 : L.flatten = (L.take lo).flatten ++ (((L.drop lo).take n).flatten ++ ((L.drop lo).drop n).flatten) := by
          rw [← List.flatten_append, List.take_append_drop, ← List.flatten_append, List.take_append_drop]
        have k2 : (L.take lo).flatten.length = lo * w := by
          rw [flat_len (w := w) fun x hx => h3 x (List.mem_of_mem_take hx), List.length_take, Nat.min_eq_left (by omega)]
        have hi : i < ((L.drop lo).take n).flatten.length := by
          rcases Nat.lt_or_ge i ((L.drop lo).take n).flatten.length with h | h
          · exact h
          · rw [List.getElem?_eq_none h] at hv; cases hv
        rw [k1, List.getElem?_append_right (by omega), k2, Nat.add_sub_cancel_left, List.getElem?_append_left hi]
        exact hv
theorem RowW.del {r r' : Nat} {e : TypeId} {w : Nat} {s : Sl} {l : List (List Value)} {b : Nat} (h : RowW tag σ r e w s l) (hb : tag b = r') (hr : r ≠ r') : RowW tag (SL.del σ b) r e w s l := by
  rcases h with h | ⟨c, cs, ha, ht, hs, hx⟩
  · exact .inl h
  · refine .inr ⟨c, cs, ha, ht, ?_, hx⟩
    have : c ≠ b := fun e => hr (by rw [← ht, e, hb])
    unfold SL.del; rw [if_neg this]; exact hs
theorem Row.toW {r w b : Nat} {e : TypeId} {l : List Value} (h : Row tag σ r e ⟨some ⟨b, 0, none⟩, w, w⟩ l) : RowW tag σ r e w ⟨some ⟨b, 0, none⟩, 1, 1⟩ [l] := by
  rcases h with ⟨h, _⟩ | ⟨c, cs, ha, ht, hb, hln, hc, hle, hg⟩
  · cases h
  · cases ha
    refine .inr ⟨b, cs, rfl, ht, hb, rfl, by rw [Nat.one_mul]; exact hc.symm, Nat.le_refl _, fun x hx => by rw [List.mem_singleton.1 hx]; exact hln.symm, fun i v hv => ?_⟩
    rw [List.flatten_singleton] at hv
    have hi : i < l.length := by
      rcases Nat.lt_or_ge i l.length with h | h
      · exact h
      · rw [List.getElem?_eq_none h] at hv; cases hv
    rw [hg i hi]; exact hv
end Go.Proofs.YthfpmipeejjogaaGreatDoor.SL
namespace Go.Proofs.YthfpmipeejjogaaGreatDoor.Zt
open Go Go.Proofs.YthfpmipeejjogaaGreatDoor.SL Go.Proofs.YthfpmipeejjogaaGreatDoor.G Go.Proofs.YthfpmipeejjogaaGreatDoor.Pa Go.Proofs.YthfpmipeejjogaaGreatDoor.Wi
set_option linter.unusedSimpArgs false
set_option linter.unusedVariables false
set_option maxRecDepth 100000
variable {B : World} {ro σ σ' : AH} {tag tag' : Nat → Nat}

theorem rnew_ok {Q : Option Addr → AH → Prop} (hQ : ∀ T tag' σ', Step [] ro tag σ tag' σ' → RefIs tag' σ' 11 T St.new → Q (some ⟨T, 0, none⟩) σ') : c_ref07_New B ro σ Q := by
  refine ref07_New_ok fun hs => ?_
  unfold f_ref07_New
  refine nw_cells (tag := tag) 75 hs fun X tag1 σ1 st1 r1 => ?_
  refine nw_cells (tag := tag1) 11 (st1 []).sep fun T tag2 σ2 st2 r2 => ?_
  have r1' : Row tag1 σ1 75 159 ⟨some ⟨X, 0, none⟩, 5, 5⟩ (nodeV ([47], ⟨0, 0, 0, 0, []⟩) ⟨none, 0, 0⟩) := r1
  refine hQ T tag2 σ2 ((st1 []).trans (st2 [])) ⟨⟨some ⟨X, 0, none⟩, 1, 1⟩, [⟨none, 0, 0⟩], rfl, r2, RowW.keep r1'.toW (st2 []) (by simp), fun i p d hp hd => ?_⟩
  cases i with
  | zero => cases hp; cases hd; exact Row.nil _ _
  | succ k => cases hp
theorem parent_none {p : Str} : parent p = none ↔ (p = [47] ∨ parts p = none) := by
  constructor
  · intro h
    cases hp : parts p with
    | none => exact .inr rfl
    | some ps =>
      by_cases c : p = [47]
      · exact .inl c
      · obtain ⟨u, hu⟩ := parent_some hp c
        rw [h] at hu; cases hu
  · rintro (h | h)
    · rw [h]; rfl
    · unfold parent; rw [h]
def rdel (l : St) (p : Str) (v : Int) : St × Int :=
  if parent p = none then (l, 20)
  else match l.lookup p with
    | none => (l, 70)
    | some n => if v ≠ -1 ∧ v ≠ n.ver then (l, 72) else if 0 < kc (l.map (·.1)) p then (l, 73) else (delK l p, 0)
def rset (l : St) (p d : Str) (v : Int) : St × Int × Int :=
  if parent p = none then (l, 0, 20)
  else if 256 < d.length then (l, 0, 75)
  else match l.lookup p with
    | none => (l, 0, 70)
    | some n => if v ≠ -1 ∧ v ≠ n.ver then (l, 0, 72) else (modN l p (setNd d), IntKind.i64.wrap (n.ver + 1), 0)
theorem rset_srt {st : St} (hk : (st.map (·.1)).Nodup) (p d : Str) (v : Int) : rset (srt st) p d v = (srt (setD st p d v).1, (setD st p d v).2) := by
  unfold rset setD
  by_cases c : parent p = none
  · rw [if_pos c, if_pos (parent_none.1 c)]
  rw [if_neg c, if_neg fun h => c (parent_none.2 h), lookup_srt hk]
  split
  · rfl
  cases st.lookup p with
  | none => rfl
  | some n =>
    simp only
    split
    · rfl
    · rw [srt_mod hk]
theorem delK_nk (p : Str) : ∀ l : St, (delK l p).map nk = delK (l.map nk) p := by
  intro l
  induction l with
  | nil => rfl
  | cons x l ih =>
    obtain ⟨k, n⟩ := x
    have e : ∀ (k : Str) (n : Nd) (r : St), delK ((k, n) :: r) p = if p = k then r else (k, n) :: delK r p := fun _ _ _ => rfl
    rw [e, List.map_cons]
    show _ = delK ((k, { n with kids := 0 }) :: l.map nk) p
    rw [e]
    split
    · rfl
    · rw [List.map_cons, ih]; rfl
theorem rdel_srt {st : St} (hi : Inv st) (p : Str) (v : Int) : (rdel (srt st) p v).2 = (remove st p v).2 ∧ (rdel (srt st) p v).1.map nk = (srt (remove st p v).1).map nk := by
  have hk := hi.keys
  unfold rdel remove
  by_cases c : parent p = none
  · rw [if_pos c, if_pos (parent_none.1 c)]; exact ⟨rfl, rfl⟩
  rw [if_neg c, if_neg fun h => c (parent_none.2 h), lookup_srt hk]
  cases hl : st.lookup p with
  | none => exact ⟨rfl, rfl⟩
  | some n =>
    simp only
    split
    · exact ⟨rfl, rfl⟩
    have hkids := hi.kids p n hl
    rw [kc_perm ((srt_perm st).map (·.1)) p]
    by_cases c2 : 0 < kc (st.map (·.1)) p
    · rw [if_pos c2, if_pos (by omega)]; exact ⟨rfl, rfl⟩
    rw [if_neg c2, if_neg (by omega)]
    cases hu : parent p with
    | none => exact absurd hu c
    | some u =>
      refine ⟨rfl, ?_⟩
      simp only
      have hk2 : ((modN st u less).map (·.1)).Nodup := by rw [keys_mod]; exact hk
      rw [srt_del hk2, srt_mod hk, delK_nk, delK_nk]
      congr 1
      exact (modN_nk0 (a := srt st) (u := u) (f := less) fun n => rfl).symm
theorem rdelete_ok {T : Nat} {l : St} {p : Str} {v : Int} {Q : Int → AH → Prop} (h : RefIs tag σ 11 T l) (hk : (l.map (·.1)).Nodup) (hl : l.length ≤ 4294967290)
    (hQ : ∀ tag' σ', StepS [11] ro tag σ tag' σ' → RefIs tag' σ' 11 T (rdel l p v).1 → Q (rdel l p v).2 σ') : c_ref07_Tree_Delete B ro (some ⟨T, 0, none⟩) (S p) v σ Q := by
  refine ref07_Tree_Delete_ok fun hs => ?_
  unfold f_ref07_Tree_Delete
  have same : ∀ e : Int, rdel l p v = (l, e) → Q e σ := fun e he => by
    have := hQ tag σ (StepS.refl hs) (by rw [he]; exact h)
    rw [he] at this; exact this
  refine bad7_ok ?_
  by_cases c1 : parent p = none
  · rw [if_pos (by simpa using c1)]
    exact same 20 (by unfold rdel; rw [if_pos c1])
  rw [if_neg (by simpa using c1)]
  refine rnode_ok (h.m hs) (by omega) (fun hm => ?_) (fun n hn h1 h2 => ?_) fun j n hj hn hv => ?_
  · rw [if_pos (by decide)]
    exact same 70 (by unfold rdel; rw [if_neg c1, hm])
  · rw [if_pos (by decide)]
    exact same 72 (by unfold rdel; rw [if_neg c1, hn]; simp only; rw [if_pos ⟨h1, h2⟩])
  rw [if_neg (by simp)]
  refine below7_ok (h.m hs) (by omega) ?_
  have hnv : ¬ (v ≠ -1 ∧ v ≠ n.ver) := fun h => by rcases hv with h' | h'; exact h.1 h'; exact h.2 h'
  by_cases c2 : 0 < kc (l.map (·.1)) p
  · rw [if_pos (by omega)]
    exact same 73 (by unfold rdel; rw [if_neg c1, hn]; simp only; rw [if_neg hnv, if_pos c2])
  rw [if_neg (by omega)]
  have hr : rdel l p v = (delK l p, 0) := by unfold rdel; rw [if_neg c1, hn]; simp only; rw [if_neg hnv, if_neg c2]
  have hjl : j < l.length := by
    rcases Nat.lt_or_ge j l.length with h | h
    · exact h
    · rw [List.getElem?_eq_none h] at hj; cases hj
  have herase : delK l p = l.take j ++ l.drop (j + 1) := by
    have := (delK_idx l (List.replicate l.length 0) j 0 p n (by simp) hk (by rw [List.getElem?_replicate, if_pos hjl]) hj).1
    rw [this, List.eraseIdx_eq_take_drop_succ]
  have hTo : ∃ o, σ T = some o := by
    obtain ⟨_, _, _, g2, _⟩ := h
    exact g2.tagOf.2
  have h0 := h.tag0
  obtain ⟨s, ds, g1, g2, g3, g4⟩ := h0
  have hzl : (List.zipWith nodeV l ds).length = l.length := by rw [List.length_zipWith, g1, Nat.min_self]
  have hln := g3.len
  rw [hzl] at hln
  have hcap := g3.cap
  have hT := Row.cell1 g2 hs
  refine ⟨_, rfl, s, hT, ⟨⟨by omega, by omega⟩, trivial⟩, ?_⟩
  refine awp_appendW (tag := tag0 tag) (l := []) (l2 := ((List.zipWith nodeV l ds).drop 0).take j) (RowW.nil 139 159 5) hs ?_ (t := 155) (by kernel_rfl) ty159 rfl (fun x hx v hv => ?_) (by rw [List.length_take, List.length_drop, hzl]; simp; omega) (by decide) fun s1 tag1 σ1 st1 r1 => ?_
  · rw [Int.toNat_natCast, Nat.sub_zero]
    exact ReadW.cut (RowW.read g3 hs) hcap (by rw [hzl]; omega)
  · exact stor (List.mem_of_mem_drop (List.mem_of_mem_take hx)) v hv
  refine ⟨s1, rfl, ?_⟩
  have st1 := st1 [] (.inl rfl)
  have g2a := g2.keep st1 (by simp)
  have g3a := RowW.keep g3 st1 (by simp)
  have e1 : IntKind.i64.wrap ((j : Int) + 1) = ((j + 1 : Nat) : Int) := Pa.inc j (by omega)
  refine ⟨_, rfl, s, Row.cell1 g2a st1.sep, ⟨trivial, ?_⟩, ?_⟩
  · rw [e1]; exact ⟨by omega, by simp only [cutHi]; omega⟩
  rw [e1, Int.toNat_natCast]
  refine awp_appendW (l2 := ((List.zipWith nodeV l ds).drop (j + 1)).take (s.len - (j + 1))) r1 st1.sep (ReadW.cut (RowW.read g3a st1.sep) hcap (by rw [hzl]; omega)) (t := 155) (by kernel_rfl) ty159 rfl (fun x hx v hv => ?_) (by simp; omega) (by decide) fun s2 tag2 σ2 st2 r2 => ?_
  · exact stor (List.mem_of_mem_drop (List.mem_of_mem_take hx)) v hv
  refine ⟨s2, rfl, _, rfl, ?_⟩
  have st2 := st2 [139] (.inr (by simp))
  have g2b := g2a.keep st2 (by decide)
  refine g2b.st (i := 0) st2.sep rfl (by simp) rfl fun σ3 st3 r3 => ?_
  have hout : OutAt tag2 σ2 s2 (delK l p) := by
    refine ⟨ds.take j ++ ds.drop (j + 1), by rw [herase]; simp [g1], ?_, ?_⟩
    · rw [herase, List.zipWith_append (by simp [g1])]
      have e2 : ([] : List (List Value)) ++ ((List.zipWith nodeV l ds).drop 0).take j ++ ((List.zipWith nodeV l ds).drop (j + 1)).take (s.len - (j + 1)) = List.zipWith nodeV (l.take j) (ds.take j) ++ List.zipWith nodeV (l.drop (j + 1)) (ds.drop (j + 1)) := by
        have a1 : ((List.zipWith nodeV l ds).drop (j + 1)).take (s.len - (j + 1)) = (List.zipWith nodeV l ds).drop (j + 1) := List.take_of_length_le (by rw [List.length_drop, hzl]; omega)
        rw [a1, List.nil_append, List.drop_zero, List.take_zipWith, List.drop_zipWith]
      rw [← e2]; exact r2
    · rw [herase]
      refine rows_app (by simp [g1]) (fun i p' d hp hd => ?_) fun i p' d hp hd => ?_
      · rw [List.getElem?_take] at hp hd
        split at hp
        · rename_i c
          rw [if_pos c] at hd
          exact ((g4 i p' d hp hd).keep st1 (by simp)).keep st2 (by decide)
        · cases hp
      · rw [List.getElem?_drop] at hp hd
        exact ((g4 _ p' d hp hd).keep st1 (by simp)).keep st2 (by decide)
  obtain ⟨tagF, sF, rF⟩ := ref_swap (C := [11]) (by decide) hTo ((st1.s (by simp)).trans ((st2.s (by decide)).trans (st3.s (by decide)))) r3 (hout.keep st3 (by decide) (by decide))
  have := hQ tagF σ3 sF (by rw [hr]; exact rF)
  rw [hr] at this; exact this
where
  stor {l : St} {ds : List Sl} {x : List Value} (hx : x ∈ List.zipWith nodeV l ds) : ∀ v ∈ x, storable v = true := by
    obtain ⟨i, hi, rfl⟩ := List.getElem_of_mem hx
    rw [List.getElem_zipWith]
    intro v hv
    simp [nodeV] at hv
    rcases hv with rfl | rfl | rfl | rfl | rfl <;> rfl
end Go.Proofs.YthfpmipeejjogaaGreatDoor.Zt

/- The document's Set; the document's tree beside a block that is lent. -/
namespace Go.Proofs.YthfpmipeejjogaaGreatDoor.Zt
open Go Go.Proofs.YthfpmipeejjogaaGreatDoor.SL Go.Proofs.YthfpmipeejjogaaGreatDoor.G Go.Proofs.YthfpmipeejjogaaGreatDoor.Pa Go.Proofs.YthfpmipeejjogaaGreatDoor.Wi
set_option linter.unusedSimpArgs false
set_option linter.unusedVariables false
set_option maxRecDepth 100000
variable {B : World} {ro σ σ' : AH} {tag tag' : Nat → Nat}

theorem RefIs.del {r T b q : Nat} {l : St} (h : RefIs tag σ r T l) (hb : tag b = q) (h1 : r ≠ q) (h2 : r + 64 ≠ q) (h6 : 6 ≠ q) : RefIs tag (SL.del σ b) r T l := by
  obtain ⟨s, ds, g1, g2, g3, g4⟩ := h
  exact ⟨s, ds, g1, g2.del hb h1, RowW.del g3 hb h2, fun i p d hp hd => (g4 i p d hp hd).del hb h6⟩
theorem RefIs.back {r T b q : Nat} {l : St} {τ : AH} (h : RefIs tag' τ r T l) (hd : Disj (SL.one σ b) τ) (hb : ∃ o, σ b = some o) : RefIs (setTag tag' b q) (join (SL.one σ b) τ) r T l := by
  obtain ⟨s, ds, g1, g2, g3, g4⟩ := h
  exact ⟨s, ds, g1, g2.back hd hb, RowW.back g3 hd hb, fun i p d hp hd' => (g4 i p d hp hd').back hd hb⟩
theorem zip_set {l : St} {ds : List Sl} {j : Nat} {x : Str × Nd} {d : Sl} (hl : ds.length = l.length) (hj : j < l.length) : (List.zipWith nodeV l ds).set j (nodeV x d) = List.zipWith nodeV (l.set j x) (ds.set j d) := by
  apply List.ext_getElem?
  intro m
  rw [List.getElem?_zipWith, List.getElem?_set, List.getElem?_set, List.getElem?_set, List.getElem?_zipWith, List.length_zipWith]
  by_cases c : j = m
  · subst c; rw [if_pos rfl, if_pos rfl, if_pos rfl, if_pos (show j < min l.length ds.length by omega), if_pos hj, if_pos (by omega)]
  · rw [if_neg c, if_neg c, if_neg c]
theorem rset_ok {T : Nat} {l : St} {p : Str} {s : Sl} {d : Str} {v : Int} {Q : Int → Int → AH → Prop} (h : RefIs tag σ 11 T l) (hk : (l.map (·.1)).Nodup) (hl : l.length ≤ 4294967290) (hd : SL.Read ro (fun _ => none) s (d.map vU))
    (hQ : ∀ tag' σ', StepS [11] ro tag σ tag' σ' → RefIs tag' σ' 11 T (rset l p d v).1 → Q (rset l p d v).2.1 (rset l p d v).2.2 σ') : c_ref07_Tree_Set B ro (some ⟨T, 0, none⟩) (S p) s v σ Q := by
  refine ref07_Tree_Set_ok fun hs => ?_
  unfold f_ref07_Tree_Set
  have hsl : s.len = d.length := by rw [hd.1, List.length_map]
  have same : ∀ e : Int, rset l p d v = (l, 0, e) → Q 0 e σ := fun e he => by
    have := hQ tag σ (StepS.refl hs) (by rw [he]; exact h)
    rw [he] at this; exact this
  refine bad7_ok ?_
  by_cases c1 : parent p = none
  · rw [if_pos (by simpa using c1)]
    exact same 20 (by unfold rset; rw [if_pos c1])
  rw [if_neg (by simpa using c1)]
  by_cases c2 : 256 < d.length
  · rw [if_pos (by omega)]
    exact same 75 (by unfold rset; rw [if_neg c1, if_pos c2])
  rw [if_neg (by omega)]
  refine rnode_ok (h.m hs) (by omega) (fun hm => ?_) (fun n hn h1 h2 => ?_) fun j n hj hn hv => ?_
  · rw [if_pos (by decide)]
    exact same 70 (by unfold rset; rw [if_neg c1, if_neg c2, hm])
  · rw [if_pos (by decide)]
    exact same 72 (by unfold rset; rw [if_neg c1, if_neg c2, hn]; simp only; rw [if_pos ⟨h1, h2⟩])
  rw [if_neg (by simp)]
  have hnv : ¬ (v ≠ -1 ∧ v ≠ n.ver) := fun h => by rcases hv with h' | h'; exact h.1 h'; exact h.2 h'
  have hr : rset l p d v = (modN l p (setNd d), IntKind.i64.wrap (n.ver + 1), 0) := by unfold rset; rw [if_neg c1, if_neg c2, hn]; simp only; rw [if_neg hnv]
  have hjl : j < l.length := by
    rcases Nat.lt_or_ge j l.length with h | h
    · exact h
    · rw [List.getElem?_eq_none h] at hj; cases hj
  obtain ⟨s0, ds, g1, g2, g3, g4⟩ := id h
  obtain ⟨tT, hTo⟩ := g2.tagOf
  have hln := g3.len
  rw [List.length_zipWith, g1, Nat.min_self] at hln
  have hdj : ds[j]? = some ds[j] := List.getElem?_eq_getElem (by omega)
  have hz : (List.zipWith nodeV l ds)[j]? = some (nodeV (p, n) ds[j]) := by rw [List.getElem?_zipWith, hj, hdj]
  obtain ⟨b, ha, _, _⟩ := RowW.get g3 hs hz
  refine lent_block T ?_
  have hsA : SL.Sep (join ro (SL.one σ T)) (SL.del σ T) := hs.lent
  refine ⟨_, rfl, s0, acell_one (Row.cell1 g2 hs), ?_⟩
  have g3d := RowW.del g3 tT (by decide)
  refine copy_ok (tag := tag) ((hd.keep (σ := σ)).lent T) hsA (by simp; omega) (fun v hv => by obtain ⟨c, _, rfl⟩ := List.mem_map.1 hv; rfl) fun d2 tag1 σ1 st1 r1 => ?_
  have g3a := RowW.keep g3d (st1 []) (by simp)
  refine ⟨_, ha, by omega, by omega, ?_⟩
  rw [Int.toNat_natCast, add_add, add_add, Nat.zero_add]
  refine RowW.st g3a (st1 []).sep ha hz (by decide : 1 < 5) rfl fun σ2 st2 r2 => ?_
  intro hdis
  have stA : Step [75] (join ro (SL.one σ T)) tag (SL.del σ T) tag1 σ2 := (st1 [75]).trans st2
  have stB := stA.back hs hdis hTo
  have hsB := stB.sep
  have r2B := RowW.back (r' := tag T) r2 hdis hTo
  have d2B := (r1.keep st2 (by decide)).back (r' := tag T) hdis hTo
  generalize setTag tag1 T (tag T) = tagB at stB r2B d2B
  generalize join (SL.one σ T) σ2 = σB at stB hsB r2B d2B
  have hU2 : RefIs tagB σB 11 T (l.set j (p, { n with data := d })) := by
    refine ⟨s0, ds.set j d2, by simp [g1], g2.keep stB (by decide), ?_, fun i p' d' hp hd' => ?_⟩
    · have e : (nodeV (p, n) ds[j]).set 1 (Sl.v d2) = nodeV (p, { n with data := d }) d2 := rfl
      rw [e, zip_set g1 hjl] at r2B
      exact r2B
    · rw [List.getElem?_set] at hp hd'
      by_cases c : j = i
      · subst c
        rw [if_pos rfl, if_pos hjl] at hp
        rw [if_pos rfl, if_pos (by omega)] at hd'
        cases hp; cases hd'
        exact d2B
      · rw [if_neg c] at hp hd'
        exact (g4 i p' d' hp hd').keep stB (by decide)
  have hj2 : (l.set j (p, { n with data := d }))[j]? = some (p, { n with data := d }) := by rw [List.getElem?_set, if_pos rfl, if_pos hjl]
  have key := RefIs.stn (i := 2) (v := .int .i64 (IntKind.i64.wrap (n.ver + 1))) (n' := setNd d n) (K := fun σ => ∃ p48_13 : Addr, (some ⟨T, 0, none⟩ : Option Addr) = some p48_13 ∧ ∃ (x50_14 : Sl), acell ro σ p48_13 = some (Sl.v x50_14) ∧
     ∃ p52_15 : Addr, x50_14.a = some p52_15 ∧ (0 : Int) ≤ (j : Int) ∧ (j : Int) < (x50_14.len : Int) ∧
     ∃ (x54_16 : Int), acell ro σ ((p52_15.add (Int.toNat (j : Int) * 5)).add 2) = some (.int .i64 x54_16) ∧
     Q x54_16 0 σ) hU2 hsB hj2 (by decide) (fun d => rfl) rfl rfl fun σ3 st3 h3 => by
    have e3 : (l.set j (p, { n with data := d })).set j (p, setNd d n) = modN l p (setNd d) := by rw [List.set_set, modN_set hk hj]
    rw [e3] at h3
    have hj3 : (modN l p (setNd d))[j]? = some (p, setNd d n) := by rw [modN_set hk hj, List.getElem?_set, if_pos rfl, if_pos hjl]
    have hl3 : (modN l p (setNd d)).length = l.length := by unfold modN; rw [List.length_map]
    obtain ⟨s4, b4, d4, e4, e5, e6, e7, e8⟩ := h3.row st3.sep hj3
    refine ⟨_, rfl, s4, e4, _, e6, by omega, by omega, _, e7 2 _ rfl, ?_⟩
    have := hQ tagB σ3 ((stB.s (by decide)).trans (st3.s (by decide))) (by rw [hr]; exact h3)
    rw [hr] at this; exact this
  obtain ⟨s3, b3, d3, k1, k2, k3, k4, k5⟩ := key
  rw [List.length_set] at k3
  exact ⟨_, rfl, s3, k1, _, k2, by omega, by omega, n.ver, k4 2 _ rfl, _, k2, by omega, by omega, k5⟩
theorem InvB.perm {b : Nat} {x y : St} (h : InvB b x) (hp : x.Perm y) : InvB b y := by
  have hl : ∀ k, x.lookup k = y.lookup k := fun k => lookup_perm hp h.inv.keys k
  exact ⟨inv_perm hp h.inv, fun k n hk => h.ver k n (by rw [hl]; exact hk), fun k n hk => h.own k n (by rw [hl]; exact hk), fun n hn => h.rt n (by rw [hl]; exact hn), by rw [← hp.length_eq]; exact h.len⟩
end Go.Proofs.YthfpmipeejjogaaGreatDoor.Zt

/- The document's tree off bytes: Decode. -/
namespace Go.Proofs.YthfpmipeejjogaaGreatDoor.Zt
open Go Go.Proofs.YthfpmipeejjogaaGreatDoor.SL Go.Proofs.YthfpmipeejjogaaGreatDoor.G Go.Proofs.YthfpmipeejjogaaGreatDoor.Pa Go.Proofs.YthfpmipeejjogaaGreatDoor.Wi
set_option linter.unusedSimpArgs false
set_option linter.unusedVariables false
set_option maxRecDepth 100000
variable {B : World} {ro σ σ' : AH} {tag tag' : Nat → Nat}

theorem RdIs.keep {q X : Nat} {s : Sl} {l : Str} {rd : Rd} {R : List Nat} (h : RdIs tag σ q X s l rd) (k : Step R ro tag σ tag' σ') (hq : q ∉ R) : RdIs tag' σ' q X s l rd := by
  obtain ⟨p, h1, h2, h3⟩ := h
  exact ⟨p, h1, h2, h3.keep k hq⟩
theorem RdIs.err {q X : Nat} {s : Sl} {l : Str} {rd : Rd} (h : RdIs tag σ q X s l rd) (hs : SL.Sep ro σ) : acell ro σ ((⟨X, 0, none⟩ : Addr).add 2) = some (.int .i64 rd.err) := by
  obtain ⟨p, h1, h2, h3⟩ := h
  obtain ⟨pp, hpp, hg⟩ := h3.ptr hs (by simp)
  cases hpp
  exact hg 2 _ rfl
end Go.Proofs.YthfpmipeejjogaaGreatDoor.Zt

/- ZtreePlays, the walk. -/
namespace Go.Proofs.YthfpmipeejjogaaGreatDoor.Zt
open Go Go.Proofs.YthfpmipeejjogaaGreatDoor.SL Go.Proofs.YthfpmipeejjogaaGreatDoor.G Go.Proofs.YthfpmipeejjogaaGreatDoor.Pa Go.Proofs.YthfpmipeejjogaaGreatDoor.Wi
set_option linter.unusedSimpArgs false
set_option linter.unusedVariables false
set_option maxRecDepth 100000
variable {B : World} {ro σ σ' : AH} {tag tag' : Nat → Nat}

theorem flip2_ok {a0 a1 a2 s : Sl} {x7 x24 : Option Addr} {x10 : Nat} {x29 : Int} {Q : Bool → AH → Prop} {Y : Option Addr × Int → AH → Prop} {vs : List Int} (hs : SL.Sep ro σ) (h : Row tag σ 38 5 s (vs.map vB)) (hl : vs.length ≤ 4611686018427387903)
    (hK : ∀ σ', Step [38] ro tag σ tag σ' → j17_law07_ZtreePlays B ro a0 a1 a2 x7 x10 x24 x29 Q Y σ') : lfpD (l22_law07_ZtreePlays B ro a0 a1 a2 x7 x10 x24 x29 s Q Y) (0 : Int) σ := by
  suffices ∀ m j (vs : List Int) σ2, j + m = vs.length → vs.length ≤ 4611686018427387903 → Step [38] ro tag σ tag σ2 → Row tag σ2 38 5 s (vs.map vB) → lfpD (l22_law07_ZtreePlays B ro a0 a1 a2 x7 x10 x24 x29 s Q Y) (j : Int) σ2 from
    this _ 0 vs σ (Nat.zero_add _) hl (Step.refl hs) h
  intro m
  induction m with
  | zero =>
    intro j vs σ2 hj hl st2 r2
    have hln := r2.len
    rw [List.length_map] at hln
    refine lfpD.intro ?_
    unfold l22_law07_ZtreePlays
    rw [if_neg (by omega)]
    exact hK σ2 st2
  | succ m ih =>
    intro j vs σ2 hj hl st2 r2
    have hln := r2.len
    rw [List.length_map] at hln
    have hjl : j < vs.length := by omega
    obtain ⟨p, hp, hg⟩ := r2.ptr st2.sep (by simp; omega)
    refine lfpD.intro ?_
    unfold l22_law07_ZtreePlays
    rw [if_pos (by omega)]
    refine ⟨p, hp, by omega, by omega, vs[j], by rw [Int.toNat_natCast]; exact hg j _ (by rw [List.getElem?_map, List.getElem?_eq_getElem hjl]; rfl), p, hp, by omega, by omega, ?_⟩
    rw [Int.toNat_natCast]
    refine r2.st st2.sep hp (by simpa using hjl) rfl fun σ3 st3 r3 => ?_
    rw [Pa.inc j (by omega)]
    rw [show (vs.map vB).set j (.int .u8 (bitXor .u8 (if IntKind.u8.signed then -1 else IntKind.u8.max) vs[j])) = (vs.set j (bitXor .u8 (if IntKind.u8.signed then -1 else IntKind.u8.max) vs[j])).map vB from by rw [List.map_set]] at r3
    exact ih (j + 1) _ σ3 (by rw [List.length_set]; omega) (by rw [List.length_set]; exact hl) (st2.trans st3) r3
theorem srt_idem {st : St} (hk : (st.map (·.1)).Nodup) : srt (srt st) = srt st := (srt_of (srt_srt hk) (List.Perm.refl _)).symm
abbrev opC (o : OpV) (ds : Sl) : List Value := [vI o.kind, vI o.n, .string (S o.path), Sl.v ds, .bool o.seq]
theorem plays_ok {a0 a1 a2 : Sl} {os : List OpV} {ks : List Str} {ws : List Int} (g : Glob ro) (hO : Ops ro a0 os) (hl : os.length ≤ 1048576) (hd : ∀ o ∈ os, o.data.length ≤ 140737488351232) (hA : SL.Read ro (fun _ => none) a1 (ks.map Pa.vS)) (hkl : ks.length ≤ 1048576)
    (hW : SL.Read ro (fun _ => none) a2 (ws.map vI)) (hwl : ws.length ≤ 1048576) : c_law07_ZtreePlays B ro a0 a1 a2 σ fun r _ => r = true := by
  refine law07_ZtreePlays_ok fun hs => ?_
  unfold f_law07_ZtreePlays
  refine new_ok (tag := fun _ => 0) 10 (by decide) (by decide) fun T tag1 σ1 st1 h1 => ?_
  refine rnew_ok (tag := tag1) fun U tag2 σ2 st2 h2 => ?_
  rw [if_neg (by simp)]
  have h12 := h1.keepS (st2.s (C := []) (by simp)) (by simp) (by simp)
  have hsn : srt St.new = St.new := (srt_of (by simp [St.new, Srt]) (List.Perm.refl _)).symm
  suffices ∀ (m j T : Nat) (st : St) (tag5 : Nat → Nat) (σ5 : AH), j + m = os.length → SL.Sep ro σ5 → TreeIs tag5 σ5 10 T st → RefIs tag5 σ5 11 U (srt st) → InvB j st → lfpD (l5_law07_ZtreePlays B ro a0 a1 a2 (some ⟨U, 0, none⟩) fun r _ => r = true) (some ⟨T, 0, none⟩, (j : Int)) σ5 from
    this _ 0 T St.new tag2 σ2 (Nat.zero_add _) st2.sep h12 (by rw [hsn]; exact h2) invB_new
  have hln : a0.len = os.length := hO.1
  intro m
  induction m with
  | zero =>
    intro j T st tag5 σ5 hj hs5 hT hU hi
    refine lfpD.intro ?_
    unfold l5_law07_ZtreePlays
    simp only
    rw [if_neg (by omega)]
    unfold j3_law07_ZtreePlays
    exact awake_ok g fun _ _ => rfl
  | succ m ih =>
    intro j T st tag5 σ5 hj hs5 hT hU hi
    have hjl : j < os.length := by omega
    obtain ⟨q, ds, hq, hc, hrd⟩ := hO.2 j os[j] (List.getElem?_eq_getElem hjl)
    have hdj := hd _ (List.getElem_mem hjl)
    generalize os[j] = o at hc hrd hdj
    have hk := hi.inv.keys
    have hlen := hi.len
    have hsl : (srt st).length = st.length := (srt_perm st).length_eq
    have hk2 : ((srt st).map (·.1)).Nodup := (srt_srt hk).nodup
    refine lfpD.intro ?_
    unfold l5_law07_ZtreePlays
    simp only
    rw [if_pos (by omega)]
    refine ⟨q, hq, by omega, by omega, o.kind, o.n, S o.path, ds, o.seq, by rw [Int.toNat_natCast]; exact hc σ5, ?_⟩
    refine nw_st (tag := tag5) 37 hs5 rfl (by simp [storable, Sl.v]) fun x tag6 σ6 st6 r6 => ?_
    have hs6 := (st6 []).sep
    have hT6 := hT.keep (st6 []) (by simp)
    have hU6 := hU.keep (st6 []) (by simp) (by simp) (by simp)
    obtain ⟨px, hpx, hg6⟩ := r6.ptr hs6 (by simp)
    cases hpx
    refine ⟨ds, hg6 3 _ rfl, ?_⟩
    refine copy_ok (tag := fun _ => 7) hrd.keep hs6 (by simp; omega) (fun v hv => by obtain ⟨c, _, rfl⟩ := List.mem_map.1 hv; rfl) fun sIn tagc σ7 stc rc => ?_
    obtain ⟨tag7, st7, hrow⟩ := fresh_role stc tag6 38
    have rIn := hrow _ _ _ rc
    have hs7 := (st7 []).sep
    have hT7 := hT6.keep (st7 []) (by simp)
    have hU7 := hU6.keep (st7 []) (by simp) (by simp) (by simp)
    have r7 : Row tag7 σ7 37 40 ⟨some ⟨x, 0, none⟩, 5, 5⟩ (opC o ds) := r6.keep (st7 []) (by simp)
    obtain ⟨px, hpx, hg⟩ := r7.ptr hs7 (by simp)
    cases hpx
    obtain ⟨ht0, hto⟩ := r7.tagOf
    -- behind the call
    have behind : ∀ (T' : Nat) (st' : St) (tag8 : Nat → Nat) (σ8 : AH), SL.Sep ro σ8 → TreeIs tag8 σ8 10 T' st' → RefIs tag8 σ8 11 U (srt st') → InvB (j + 1) st' → Row tag8 σ8 37 40 ⟨some ⟨x, 0, none⟩, 5, 5⟩ (opC o ds) → Row tag8 σ8 38 5 sIn (o.data.map vU) →
        j15_law07_ZtreePlays B ro a0 a1 a2 x (some ⟨U, 0, none⟩) (j : Int) sIn (fun r _ => r = true) (lfpD (l5_law07_ZtreePlays B ro a0 a1 a2 (some ⟨U, 0, none⟩) fun r _ => r = true)) (some ⟨T', 0, none⟩) σ8 := by
      intro T' st' tag8 σ8 hs8 hT8 hU8 hi8 r8 rIn8
      unfold j15_law07_ZtreePlays
      have evB : o.data.map vU = (o.data.map fun c => (c.toNat : Int)).map vB := by rw [List.map_map]; rfl
      rw [evB] at rIn8
      refine flip2_ok hs8 rIn8 (by rw [List.length_map]; omega) fun σ9 st9 => ?_
      have hT9 := hT8.keep st9 (by decide)
      have hU9 := hU8.keep st9 (by decide) (by decide) (by decide)
      have r9 := r8.keep st9 (by decide)
      obtain ⟨p9, hp9, hg9⟩ := r9.ptr st9.sep (by simp)
      cases hp9
      unfold j17_law07_ZtreePlays
      refine ⟨S o.path, hg9 2 _ rfl, ?_⟩
      refine nw_cells (tag := tag8) 39 st9.sep fun P tagA σA stA rA => ?_
      have rA' : Row tagA σA 39 9 ⟨some ⟨P, 0, none⟩, 2, 2⟩ ([[47], o.path].map Pa.vS) := rA
      refine awp_appendN rA' (stA []).sep hA.keep Pa.t25 ty9 rfl (fun v hv => by obtain ⟨c, _, rfl⟩ := List.mem_map.1 hv; rfl) (by simp; omega) (by decide) fun sB tagB σB stB rB => ?_
      refine ⟨sB, rfl, ?_⟩
      have stB := stB [39] (.inr (by simp))
      have hTB := (hT9.keep (stA []) (by simp)).keep stB (by decide)
      have hUB := (hU9.keep (stA []) (by simp) (by simp) (by simp)).keep stB (by decide) (by decide) (by decide)
      have hlen8 := hi8.len
      rw [← List.map_append] at rB
      refine alike_ok g hTB hUB (hi8.inv3 (by omega)) (by omega) hW (by omega) (fun tag' σ' st => (rB.keepS st (by decide)).read st.sep) (by simp; omega) fun tagC σC stC => ?_
      rw [if_neg (by simp)]
      unfold j8_law07_ZtreePlays
      rw [Pa.inc j (by omega)]
      exact ih (j + 1) T' st' tagC σC (by omega) stC.sep (hTB.keepS stC (by decide) (by decide)) (hUB.keepS stC (by decide) (by decide)) hi8
    refine ⟨o.kind, hg 0 _ rfl, ?_⟩
    by_cases k1 : o.kind = 1
    · rw [if_pos k1]
      refine ⟨S o.path, hg 2 _ rfl, o.n, hg 1 _ rfl, o.seq, hg 4 _ rfl, ?_⟩
      refine create_ok g (by decide) (by decide) (by decide) hT7 (rIn.read hs7) (by omega) fun tag8 σ8 st8 hT8 => ?_
      have r8 := r7.keepC st8 (by decide)
      have hU8 := hU7.keepS (st8.s (C := [10]) (by simp)) (by decide) (by decide)
      have i8 := rIn.keepC st8 (by decide)
      obtain ⟨p8, hp8, hg8⟩ := r8.ptr st8.sep (by simp)
      cases hp8
      refine ⟨S o.path, hg8 2 _ rfl, ds, hg8 3 _ rfl, o.n, hg8 1 _ rfl, o.seq, hg8 4 _ rfl, ?_⟩
      refine rcreate_ok hU8 hk2 (by omega) hrd fun tag9 σ9 st9 hU9 => ?_
      rw [L_S] at hT8 ⊢
      rw [rcr_srt hk] at hU9 ⊢
      rw [if_neg (by simp)]
      exact behind T _ tag9 σ9 st9.sep (hT8.keepS st9 (by decide) (by decide)) hU9 (invB_create hi (by omega)) (r8.keepS st9 (by decide)) (i8.keepS st9 (by decide))
    rw [if_neg k1]
    by_cases k2 : o.kind = 2
    · rw [if_pos k2]
      refine lent_block x ?_
      have hsl2 : SL.Sep (join ro (SL.one σ7 x)) (SL.del σ7 x) := hs7.lent
      refine ⟨S o.path, r7.lend hs7 (i := 2) rfl, o.n, r7.lend hs7 (i := 1) rfl, S o.path, r7.lend hs7 (i := 2) rfl, o.n, r7.lend hs7 (i := 1) rfl, ?_⟩
      have hT7' := hT7.del' ht0 (by decide) (by decide) (by decide) (by decide)
      have hU7' := hU7.del ht0 (by decide) (by decide) (by decide)
      refine delete_ok (tag := tag7) (glob_lent g) (by decide) (by decide) (by decide) hT7' (by rw [L_S]; exact del_up hi.inv) fun tag8 σ8 st8 hT8 => ?_
      refine rdelete_ok (hU7'.keepS (st8.s (C := [10]) (by simp)) (by decide) (by decide)) hk2 (by omega) fun tag9 σ9 st9 hU9 => ?_
      intro hdis
      have sA : StepS [10, 11] (join ro (SL.one σ7 x)) tag7 (SL.del σ7 x) tag9 σ9 := (st8.s (by decide)).trans (st9.mono (by decide))
      have stB := StepS.back sA hs7 hdis hto
      have hT9 := (hT8.keepS st9 (by decide) (by decide)).back (r' := tag7 x) hdis hto
      have hU9' := hU9.back (q := tag7 x) hdis hto
      rw [L_S] at hT9 ⊢
      obtain ⟨e1, e2⟩ := rdel_srt hi.inv o.path o.n
      rw [if_neg (by rw [e1]; simp)]
      exact behind T _ _ _ stB.sep hT9 (hU9'.nk e2) (invB_remove hi (by omega)) (r7.keepS stB (by decide)) (rIn.keepS stB (by decide))
    rw [if_neg k2]
    by_cases k3 : o.kind = 3
    · rw [if_pos k3]
      refine ⟨S o.path, hg 2 _ rfl, o.n, hg 1 _ rfl, ?_⟩
      refine set_ok g (by decide) (by decide) (by decide) hT7 (rIn.read hs7) (by omega) fun tag8 σ8 st8 hT8 => ?_
      have r8 := r7.keepC st8 (by decide)
      have hU8 := hU7.keepS (st8.s (C := [10]) (by simp)) (by decide) (by decide)
      have i8 := rIn.keepC st8 (by decide)
      obtain ⟨p8, hp8, hg8⟩ := r8.ptr st8.sep (by simp)
      cases hp8
      refine ⟨S o.path, hg8 2 _ rfl, ds, hg8 3 _ rfl, o.n, hg8 1 _ rfl, ?_⟩
      refine rset_ok hU8 hk2 (by omega) hrd fun tag9 σ9 st9 hU9 => ?_
      rw [L_S] at hT8 ⊢
      rw [rset_srt hk] at hU9 ⊢
      rw [if_neg (by simp)]
      exact behind T _ tag9 σ9 st9.sep (hT8.keepS st9 (by decide) (by decide)) hU9 (invB_set hi (by omega)) (r8.keepS st9 (by decide)) (i8.keepS st9 (by decide))
    rw [if_neg k3]
    by_cases k4 : o.kind = 4
    · rw [if_pos k4]
      obtain ⟨M, bs, hA7⟩ := hT7
      refine encode_ok (by decide) (by decide) (by decide) (by decide) (by decide) hA7 hi.inv.small (by omega) fun s8 tag8 σ8 st8 r8 => ?_
      have hel := encS_len hi (by omega)
      have hdec := dec_encS (hi.inv3 (by omega)) (by omega)
      refine decode_ok (tag := tag8) (r := 10) g (by decide) (by decide) (by decide) (by decide) (r8.read st8.sep) (by omega) (fun hn => by rw [hdec] at hn; cases hn) fun st' hst' T' tag9 σ9 st9 hT9 => ?_
      rw [hdec] at hst'
      obtain rfl := Option.some.inj hst'
      rw [if_neg (by simp)]
      have hU9 := (hU7.keep st8 (by decide) (by decide) (by decide)).keepS st9 (by decide) (by decide)
      exact behind T' (srt st) tag9 σ9 st9.sep hT9 (by rw [srt_idem hk]; exact hU9) ((hi.perm (srt_perm st).symm).mono (by omega)) ((r7.keep st8 (by decide)).keepS st9 (by decide)) ((rIn.keep st8 (by decide)).keepS st9 (by decide))
    rw [if_neg k4]
    exact behind T st tag7 σ7 hs7 hT7 hU7 (hi.mono (by omega)) r7 rIn
end Go.Proofs.YthfpmipeejjogaaGreatDoor.Zt

/- ZtreeShape: the script as it stands in memory. -/
namespace Go.Proofs.YthfpmipeejjogaaGreatDoor.Zt
open Go Go.Proofs.YthfpmipeejjogaaGreatDoor.SL Go.Proofs.YthfpmipeejjogaaGreatDoor.G Go.Proofs.YthfpmipeejjogaaGreatDoor.Pa
set_option linter.unusedSimpArgs false
set_option linter.unusedVariables false

theorem c5 : Tryz.prog.cellsOf 5 = 1 := by kernel_rfl
theorem c40 : Tryz.prog.cellsOf 40 = 5 := by kernel_rfl
theorem c3 : Tryz.prog.cellsOf 3 = 1 := by kernel_rfl
theorem c9 : Tryz.prog.cellsOf 9 = 1 := by kernel_rfl
theorem c30 : Tryz.prog.cellsOf 30 = 1 := by kernel_rfl
theorem c4 : Tryz.prog.cellsOf 4 = 1 := by kernel_rfl
theorem b5 : Tryz.prog.bytesOf 5 = 1 := by kernel_rfl
theorem b40 : Tryz.prog.bytesOf 40 = 64 := by kernel_rfl
theorem u4b : Tryz.prog.underlying 4 = some .bool := by kernel_rfl
theorem u3' : Tryz.prog.underlying 3 = some (.int .i64) := by kernel_rfl
theorem u4' : Tryz.prog.underlying 4 = some .bool := by kernel_rfl

theorem bytes_of {W : World} {H : Type} {enc : TypeId × Value → H} {a : Option Addr} {len cap : Nat} (h : Arg Tryz.prog W H enc 30 [.slice a len cap]) : ∃ d : Str, d.length ≤ 140737488351232 ∧ SL.Read (all W) (fun _ => none) ⟨a, len, cap⟩ (d.map vU) := by
  rcases h.slice u30 with ⟨rfl, rfl, rfl⟩ | ⟨x, rfl, hl, hb, hel⟩
  · exact ⟨[], by decide, rfl, fun _ => rfl, fun p h => by cases h⟩
  · rw [c5] at hel
    rw [b5, Nat.mul_one] at hb
    have key : ∀ j : Nat, ∃ c : UInt8, j < len → W.cell? (x.add j) = some (vU c) := fun j => by
      by_cases hj : j < len
      · obtain ⟨cs, h1, h2, h3⟩ := hel j hj
        match cs, h1 with
        | [u], _ =>
          obtain ⟨c, rfl⟩ := h3.u8 u5
          have := h2 0 (by omega)
          rw [Nat.mul_one, add_zero] at this
          exact ⟨c, fun _ => this⟩
      · exact ⟨0, fun h => absurd h hj⟩
    obtain ⟨f, hf⟩ := Classical.axiomOfChoice key
    refine ⟨(List.range len).map f, by simp [reachBytes] at hb ⊢; omega, by simp, (fun h => by cases h), fun p hp i v hv => ?_⟩
    cases hp
    have hi : i < len := by
      rcases Nat.lt_or_ge i len with h | h
      · exact h
      · rw [List.getElem?_eq_none (by simpa using h)] at hv; cases hv
    rw [List.getElem?_map, List.getElem?_map, List.getElem?_range hi] at hv
    cases hv
    exact all_cell _ (hf i hi)

theorem u22 : Tryz.prog.underlying 22 = some (.slice 40) := by kernel_rfl
theorem u40 : ∃ fs, Tryz.prog.underlying 40 = some (.struct fs) ∧ fs.toList.map (fun f => (f.type, f.offset)) = [(3, 0), (3, 1), (9, 2), (30, 3), (4, 4)] := ⟨_, Tryz.underlying40, rfl⟩
set_option maxRecDepth 100000 in
theorem op_of {W : World} {H : Type} {enc : TypeId × Value → H} {cs : List Value} (h : Arg Tryz.prog W H enc 40 cs) :
    ∃ (o : OpV) (ds : Sl), cs = [vI o.kind, vI o.n, .string (S o.path), Sl.v ds, .bool o.seq] ∧ o.data.length ≤ 140737488351232 ∧ SL.Read (all W) (fun _ => none) ds (o.data.map vU) := by
  obtain ⟨fs, hu, hfs⟩ := u40
  obtain ⟨hl, hel⟩ := h.struct hu
  rw [c40] at hl
  match cs, hl with
  | [v0, v1, v2, v3, v4], _ =>
    have get : ∀ i t o, ([(3, 0), (3, 1), (9, 2), (30, 3), (4, 4)] : List (TypeId × Nat))[i]? = some (t, o) → Arg Tryz.prog W H enc t (([v0, v1, v2, v3, v4].drop o).take (Tryz.prog.cellsOf t)) := fun i t o hi => by
      rw [← hfs, List.getElem?_map] at hi
      obtain ⟨f, hf, e⟩ := Option.map_eq_some_iff.1 hi
      have := hel i f hf
      simp only [Prod.mk.injEq] at e
      rw [e.1, e.2] at this
      exact this
    have a0 := get 0 _ _ rfl
    have a1 := get 1 _ _ rfl
    have a2 := get 2 _ _ rfl
    have a3 := get 3 _ _ rfl
    have a4 := get 4 _ _ rfl
    rw [c3] at a0 a1
    rw [c9] at a2
    rw [c30] at a3
    rw [c4] at a4
    obtain ⟨x0, rfl⟩ := Arg.i64 u3' a0
    obtain ⟨x1, rfl⟩ := Arg.i64 u3' a1
    obtain ⟨s, rfl, _⟩ := Arg.str u9 a2
    obtain ⟨b, rfl⟩ := Arg.bool u4' a4
    have hsl : ∃ a len cap, v3 = .slice a len cap := by
      obtain ⟨fuel, d, ps, hf, _⟩ := a3
      rcases Go.Deep.open_slice u30 hf with ⟨e, _⟩ | ⟨x, l, c, _, _, _, _, e, _⟩
      · simp at e; exact ⟨_, _, _, e⟩
      · simp at e; exact ⟨_, _, _, e⟩
    obtain ⟨a, len, cap, rfl⟩ := hsl
    obtain ⟨d, h1, h2⟩ := bytes_of a3
    exact ⟨⟨x0, x1, L s, d, b⟩, ⟨a, len, cap⟩, by simp [Sl.v], h1, h2⟩
set_option maxRecDepth 100000 in
theorem ops_of {W : World} {H : Type} {enc : TypeId × Value → H} {a : Option Addr} {len cap : Nat} (h : Arg Tryz.prog W H enc 22 [.slice a len cap]) :
    ∃ os : List OpV, Ops (all W) ⟨a, len, cap⟩ os ∧ os.length ≤ 2199023255552 ∧ ∀ o ∈ os, o.data.length ≤ 140737488351232 := by
  rcases h.slice u22 with ⟨rfl, rfl, rfl⟩ | ⟨x, rfl, hl, hb, hel⟩
  · exact ⟨[], ⟨rfl, fun j o h => by cases h⟩, by decide, fun o h => by cases h⟩
  · rw [c40] at hel
    rw [b40] at hb
    have key : ∀ j : Nat, ∃ q : OpV × Sl, j < len → (∀ σ, cellsAt (all W) σ (x.add (j * 5)) 0 [vI q.1.kind, vI q.1.n, .string (S q.1.path), Sl.v q.2, .bool q.1.seq]) ∧ q.1.data.length ≤ 140737488351232 ∧ SL.Read (all W) (fun _ => none) q.2 (q.1.data.map vU) := fun j => by
      by_cases hj : j < len
      · obtain ⟨cs, h1, h2, h3⟩ := hel j hj
        obtain ⟨o, ds, rfl, h4, h5⟩ := op_of h3
        refine ⟨(o, ds), fun _ => ⟨fun σ => cellsAt_of 0 fun i v hv => ?_, h4, h5⟩⟩
        have hi : i < 5 := by
          rcases Nat.lt_or_ge i 5 with h | h
          · exact h
          · rw [List.getElem?_eq_none (by simpa using h)] at hv; cases hv
        have := h2 i hi
        rw [hv] at this
        rw [Nat.zero_add]
        exact all_cell σ this
      · exact ⟨(⟨0, 0, [], [], false⟩, ⟨none, 0, 0⟩), fun h => absurd h hj⟩
    obtain ⟨f, hf⟩ := Classical.axiomOfChoice key
    refine ⟨(List.range len).map fun j => (f j).1, ⟨by simp, fun j o ho => ?_⟩, by simp [reachBytes] at hb ⊢; omega, fun o ho => ?_⟩
    · have hj : j < len := by
        rcases Nat.lt_or_ge j len with h | h
        · exact h
        · rw [List.getElem?_eq_none (by simpa using h)] at ho; cases ho
      rw [List.getElem?_map, List.getElem?_range hj] at ho
      cases ho
      obtain ⟨h1, _, h3⟩ := hf j hj
      exact ⟨x, (f j).2, rfl, h1, h3⟩
    · obtain ⟨j, hj, rfl⟩ := List.mem_map.1 ho
      exact (hf j (List.mem_range.1 hj)).2.1
end Go.Proofs.YthfpmipeejjogaaGreatDoor.Zt

/- The scripts of several changes, as they stand in memory. -/
namespace Go.Proofs.YthfpmipeejjogaaGreatDoor.Zt
open Go Go.Proofs.YthfpmipeejjogaaGreatDoor.SL Go.Proofs.YthfpmipeejjogaaGreatDoor.G Go.Proofs.YthfpmipeejjogaaGreatDoor.Pa
set_option linter.unusedSimpArgs false
set_option linter.unusedVariables false

theorem u25 : Tryz.prog.underlying 25 = some (.slice 9) := by kernel_rfl
theorem strings_of {W : World} {H : Type} {enc : TypeId × Value → H} {a : Option Addr} {len cap : Nat} (h : Arg Tryz.prog W H enc 25 [.slice a len cap]) : ∃ hs : List Str, hs.length = len ∧ (∀ x ∈ hs, x.length ≤ reachBytes) ∧ SL.Read (all W) (fun _ => none) ⟨a, len, cap⟩ (hs.map Pa.vS) := by
  rcases h.slice u25 with ⟨rfl, rfl, rfl⟩ | ⟨x, rfl, hl, hb, hel⟩
  · exact ⟨[], rfl, by simp, rfl, fun _ => rfl, fun p h => by cases h⟩
  · rw [c9] at hel
    have key : ∀ j : Nat, ∃ c : Str, j < len → W.cell? (x.add j) = some (Pa.vS c) ∧ c.length ≤ reachBytes := fun j => by
      by_cases hj : j < len
      · obtain ⟨cs, h1, h2, h3⟩ := hel j hj
        match cs, h1 with
        | [u], _ =>
          obtain ⟨c, rfl, hc⟩ := Arg.str u9 h3
          have := h2 0 (by omega)
          rw [Nat.mul_one, add_zero] at this
          exact ⟨L c, fun _ => ⟨by rw [this]; simp [Pa.vS], by rw [L_len]; exact hc⟩⟩
      · exact ⟨[], fun h => absurd h hj⟩
    obtain ⟨f, hf⟩ := Classical.axiomOfChoice key
    refine ⟨(List.range len).map f, by simp, fun y hy => ?_, by simp, (fun h => by cases h), fun p hp i v hv => ?_⟩
    · obtain ⟨j, hj, rfl⟩ := List.mem_map.1 hy
      exact (hf j (List.mem_range.1 hj)).2
    · cases hp
      have hi : i < len := by
        rcases Nat.lt_or_ge i len with h | h
        · exact h
        · rw [List.getElem?_eq_none (by simpa using h)] at hv; cases hv
      rw [List.getElem?_map, List.getElem?_map, List.getElem?_range hi] at hv
      cases hv
      exact all_cell _ (hf i hi).1
end Go.Proofs.YthfpmipeejjogaaGreatDoor.Zt

/- A slice of ints among the arguments. -/
namespace Go.Proofs.YthfpmipeejjogaaGreatDoor.Zt
open Go Go.Proofs.YthfpmipeejjogaaGreatDoor.SL Go.Proofs.YthfpmipeejjogaaGreatDoor.G Go.Proofs.YthfpmipeejjogaaGreatDoor.Pa
set_option linter.unusedSimpArgs false
set_option linter.unusedVariables false
theorem u58' : Tryz.prog.underlying 58 = some (.slice 3) := by kernel_rfl
theorem ints_of {W : World} {H : Type} {enc : TypeId × Value → H} {a : Option Addr} {len cap : Nat} (h : Arg Tryz.prog W H enc 58 [.slice a len cap]) : ∃ ws : List Int, ws.length = len ∧ SL.Read (all W) (fun _ => none) ⟨a, len, cap⟩ (ws.map vI) := by
  rcases h.slice u58' with ⟨rfl, rfl, rfl⟩ | ⟨x, rfl, hl, hb, hel⟩
  · exact ⟨[], rfl, rfl, fun _ => rfl, fun p h => by cases h⟩
  · rw [c3] at hel
    have key : ∀ j : Nat, ∃ c : Int, j < len → W.cell? (x.add j) = some (vI c) := fun j => by
      by_cases hj : j < len
      · obtain ⟨cs, h1, h2, h3⟩ := hel j hj
        match cs, h1 with
        | [u], _ =>
          obtain ⟨c, rfl⟩ := Arg.i64 u3' h3
          have := h2 0 (by omega)
          rw [Nat.mul_one, add_zero] at this
          exact ⟨c, fun _ => this⟩
      · exact ⟨0, fun h => absurd h hj⟩
    obtain ⟨f, hf⟩ := Classical.axiomOfChoice key
    refine ⟨(List.range len).map f, by simp, by simp, (fun h => by cases h), fun p hp i v hv => ?_⟩
    cases hp
    have hi : i < len := by
      rcases Nat.lt_or_ge i len with h | h
      · exact h
      · rw [List.getElem?_eq_none (by simpa using h)] at hv; cases hv
    rw [List.getElem?_map, List.getElem?_map, List.getElem?_range hi] at hv
    cases hv
    exact all_cell _ (hf i hi)
end Go.Proofs.YthfpmipeejjogaaGreatDoor.Zt
