/- R7M, R7N, R7O, R7P, R7Q, R7S, R7T, R7U, R7V, R7W, R7X, ZtR -/
import Derived.Test.YthfpmipeejjogaaGreatDoorXL
/- What a tree and the document's tree answer of one path. -/
namespace Go.Proofs.YthfpmipeejjogaaGreatDoor.Zt
open Go Go.Proofs.YthfpmipeejjogaaGreatDoor.SL Go.Proofs.YthfpmipeejjogaaGreatDoor.G Go.Proofs.YthfpmipeejjogaaGreatDoor.Pa Go.Proofs.YthfpmipeejjogaaGreatDoor.Wi
set_option linter.unusedSimpArgs false
set_option linter.unusedVariables false
set_option maxRecDepth 100000
variable {B : World} {ro σ σ' : AH} {tag tag' : Nat → Nat}

theorem g32 : Tryz.prog.eqGuardType Tryz.prog.depth 32 = false := by kernel_rfl
theorem st32 : Tryz.prog.stoodInHeld 32 = false := by kernel_rfl
theorem u32 : ∃ n1 n2 n3 n4 : Field, Tryz.prog.underlying 32 = some (.struct #[n1, n2, n3, n4]) ∧ (n1.type = 3 ∧ n1.offset = 0 ∧ n1.name ≠ "_") ∧ (n2.type = 3 ∧ n2.offset = 1 ∧ n2.name ≠ "_") ∧ (n3.type = 3 ∧ n3.offset = 2 ∧ n3.name ≠ "_") ∧ (n4.type = 3 ∧ n4.offset = 3 ∧ n4.name ≠ "_") :=
  ⟨_, _, _, _, Tryz.underlying32, ⟨rfl, rfl, by decide⟩, ⟨rfl, rfl, by decide⟩, ⟨rfl, rfl, by decide⟩, ⟨rfl, rfl, by decide⟩⟩
theorem eq32 {a b c d : Int} {τ : AH} : aread Tryz.prog ro (Op.equalIn (9999 + 1) 32 (.agg #[.int .i64 a, .int .i64 b, .int .i64 c, .int .i64 d]) (.agg #[.int .i64 a, .int .i64 b, .int .i64 c, .int .i64 d])) τ = some true := by
  obtain ⟨n1, n2, n3, n4, hu, ⟨h1, h2, h3⟩, ⟨h4, h5, h6⟩, ⟨h7, h8, h9⟩, h10, h11, h12⟩ := u32
  unfold Op.equalIn
  show aread Tryz.prog ro (Sem.bind (underlying 32) _) _ = _
  rw [underlying_bind _ _ hu]
  show aread Tryz.prog ro (if Tryz.prog.stoodInHeld 32 = true then _ else _) τ = _
  rw [st32, if_neg (by simp)]
  show aread Tryz.prog ro (Sem.bind (forIn #[n1, n2, n3, n4] _ _) _) τ = _
  have pp : ∀ {β : Type} (j : Nat) (v : Int) (f : Value → Sem β), (#[Value.int IntKind.i64 a, Value.int IntKind.i64 b, Value.int IntKind.i64 c, Value.int IntKind.i64 d] : Array Value)[j]? = some (.int .i64 v) → aread Tryz.prog ro (part 3 #[Value.int IntKind.i64 a, Value.int IntKind.i64 b, Value.int IntKind.i64 c, Value.int IntKind.i64 d] j >>= f) τ = aread Tryz.prog ro (f (.int .i64 v)) τ := fun j v f hj => by
    refine aread_bind _ _ ?_
    unfold part
    show aread Tryz.prog ro (Sem.bind (isAgg 3) _) τ = _
    rw [aread_isAgg (by kernel_rfl : Tryz.prog.underlying 3 = some (.int .i64))]
    rw [hj]
    rfl
  have q1 : ∀ {β : Type} (n : Int) (f : Bool → Sem β), aread Tryz.prog ro (Op.equalIn 9999 3 (.int .i64 n) (.int .i64 n) >>= f) τ = aread Tryz.prog ro (f true) τ := fun n f => aread_bind _ _ eqint
  refine (aread_bind _ _ (a := ((none, ()) : Option Bool × Unit)) ?_).trans rfl
  rw [← Array.forIn_toList]
  rw [List.forIn_cons]
  refine (aread_bind _ _ (a := .yield ((none, ()) : Option Bool × Unit)) ?_).trans ?_
  · rw [if_pos h3, h1, h2, pp 0 a _ rfl, pp 0 a _ rfl, q1]; rfl
  show aread Tryz.prog ro (forIn [n2, n3, n4] _ _) τ = _
  rw [List.forIn_cons]
  refine (aread_bind _ _ (a := .yield ((none, ()) : Option Bool × Unit)) ?_).trans ?_
  · rw [if_pos h6, h4, h5, pp 1 b _ rfl, pp 1 b _ rfl, q1]; rfl
  show aread Tryz.prog ro (forIn [n3, n4] _ _) τ = _
  rw [List.forIn_cons]
  refine (aread_bind _ _ (a := .yield ((none, ()) : Option Bool × Unit)) ?_).trans ?_
  · rw [if_pos h9, h7, h8, pp 2 c _ rfl, pp 2 c _ rfl, q1]; rfl
  show aread Tryz.prog ro (forIn [n4] _ _) τ = _
  rw [List.forIn_cons]
  refine (aread_bind _ _ (a := .yield ((none, ()) : Option Bool × Unit)) ?_).trans ?_
  · rw [if_pos h12, h10, h11, pp 3 d _ rfl, pp 3 d _ rfl, q1]; rfl
  rfl
theorem ne32 {a b c d : Int} {x y : Operand} {K : Value → AH → Prop} (h : K (.bool false) σ) : awp Tryz.prog ro (do eqGuard .neq 32 x y (.agg #[.int .i64 a, .int .i64 b, .int .i64 c, .int .i64 d]) (.agg #[.int .i64 a, .int .i64 b, .int .i64 c, .int .i64 d]); Go.binOp .neq 32 (.agg #[.int .i64 a, .int .i64 b, .int .i64 c, .int .i64 d]) (.agg #[.int .i64 a, .int .i64 b, .int .i64 c, .int .i64 d])) K σ := by
  refine awp_at_aread _ ?_ h
  refine (aread_bind _ _ (a := ()) ?_).trans ?_
  · show aread Tryz.prog ro (if (!(Tryz.prog.eqGuardType Tryz.prog.depth 32)) = true then _ else _) σ = _
    rw [g32, if_pos (by simp)]
    rfl
  · show aread Tryz.prog ro (Sem.bind (Op.equal 32 _ _) fun b => Sem.pure (Value.bool !b)) σ = _
    rw [equal_unfold, aread_bind _ _ eq32]; rfl
/-- what a tree says of a path: data, numbers, error -/
structure Ans where
  data : Str
  ver : Int
  ctr : Int
  own : Int
  kids : Int
  err : Int
def ansOf (st : St) (k : Str) : Ans := match parts k with
  | none => ⟨[], 0, 0, 0, 0, 20⟩
  | some _ => match st.lookup k with
    | none => ⟨[], 0, 0, 0, 0, 70⟩
    | some n => ⟨n.data, n.ver, n.ctr, n.own, n.kids, 0⟩
theorem getz_ok (q : Nat) (hq0 : q ≠ 0) {T : Nat} {st : St} {k : Str} {Q : Sl → Int → Int → Int → Int → Int → AH → Prop} (g : Glob ro) (hT : TreeIs tag σ 10 T st) (hi : Inv st)
    (hQ : ∀ s tag' σ', StepS [0] ro tag σ tag' σ' → Row tag' σ' q 5 s ((ansOf st k).data.map vU) → Q s (ansOf st k).ver (ansOf st k).ctr (ansOf st k).own (ansOf st k).kids (ansOf st k).err σ') : c_ztree_Tree_Get B ro (some ⟨T, 0, none⟩) (S k) σ Q := by
  obtain ⟨M, bs, hA⟩ := hT
  refine get_okq q hq0 g (by decide) (by decide) (by decide) hA hi.data (fun hb tag1 σ1 st1 => ?_) (fun ps hps hn tag1 σ1 st1 => ?_) fun n hn s tag1 σ1 st1 r1 => ?_
  · rw [L_S] at hb
    have e : ansOf st k = ⟨[], 0, 0, 0, 0, 20⟩ := by unfold ansOf; rw [hb]
    rw [e] at hQ
    exact hQ _ tag1 σ1 (st1.s (by simp)) (Row.nil _ _)
  · rw [L_S] at hps hn
    have e : ansOf st k = ⟨[], 0, 0, 0, 0, 70⟩ := by unfold ansOf; rw [hps, hn]
    rw [e] at hQ
    exact hQ _ tag1 σ1 (st1.s (by simp)) (Row.nil _ _)
  · rw [L_S] at hn
    obtain ⟨ps, hps⟩ := hi.path _ _ hn
    have e : ansOf st k = ⟨n.data, n.ver, n.ctr, n.own, n.kids, 0⟩ := by unfold ansOf; rw [hps, hn]
    rw [e] at hQ
    exact hQ _ tag1 σ1 (st1.s (by simp)) r1
theorem getr_ok {U : Nat} {st : St} {k : Str} {Q : ByteArray → Sl → Int → Int → Int → Int → Int → AH → Prop} (hU : RefIs tag σ 11 U (srt st)) (hi : Inv st) (hn : st.length ≤ 4294967296)
    (hQ : ∀ a d tag' σ', StepS [0] ro tag σ tag' σ' → Row tag' σ' 6 5 d ((ansOf st k).data.map vU) → Q a d (ansOf st k).ver (ansOf st k).ctr (ansOf st k).own (ansOf st k).kids (ansOf st k).err σ') : c_ref07_Tree_Get B ro (some ⟨U, 0, none⟩) (S k) σ Q := by
  have hk := hi.keys
  refine get7_ok (by decide) (by decide) (by decide) hU (by rw [(srt_perm st).length_eq]; exact hn) (fun hb tag1 σ1 st1 => ?_) (fun ps hps hn tag1 σ1 st1 => ?_) fun n hn d tag1 σ1 st1 r1 => ?_
  · have e : ansOf st k = ⟨[], 0, 0, 0, 0, 20⟩ := by unfold ansOf; rw [hb]
    rw [e] at hQ
    exact hQ _ _ tag1 σ1 st1 (Row.nil _ _)
  · rw [lookup_perm (srt_perm st) (by exact (srt_srt hk).nodup)] at hn
    have e : ansOf st k = ⟨[], 0, 0, 0, 0, 70⟩ := by unfold ansOf; rw [hps, hn]
    rw [e] at hQ
    exact hQ _ _ tag1 σ1 st1 (Row.nil _ _)
  · rw [lookup_perm (srt_perm st) (by exact (srt_srt hk).nodup)] at hn
    obtain ⟨ps, hps⟩ := hi.path _ _ hn
    have e : ansOf st k = ⟨n.data, n.ver, n.ctr, n.own, n.kids, 0⟩ := by unfold ansOf; rw [hps, hn]
    rw [e] at hQ
    rw [kc_perm' ((srt_perm st).map _), ← hi.kids _ _ hn]
    exact hQ _ _ tag1 σ1 st1 r1
end Go.Proofs.YthfpmipeejjogaaGreatDoor.Zt

/- What a tree and the document's tree answer of one path: children and paths. -/
namespace Go.Proofs.YthfpmipeejjogaaGreatDoor.Zt
open Go Go.Proofs.YthfpmipeejjogaaGreatDoor.SL Go.Proofs.YthfpmipeejjogaaGreatDoor.G Go.Proofs.YthfpmipeejjogaaGreatDoor.Pa Go.Proofs.YthfpmipeejjogaaGreatDoor.Wi
set_option linter.unusedSimpArgs false
set_option linter.unusedVariables false
set_option maxRecDepth 100000
variable {B : World} {ro σ σ' : AH} {tag tag' : Nat → Nat}

def kidsOf (st : St) (k : Str) : List Str × Int := match parts k with
  | none => ([], 20)
  | some _ => match st.lookup k with
    | none => ([], 70)
    | some _ => (namesOf ((srt st).map (·.1)) k, 0)
def underOf (st : St) (k : Str) : List Str × Int := match parts k with
  | none => ([], 20)
  | some _ => (((srt st).map (·.1)).filter fun x => isUnder k x, 0)
theorem chz_ok {T : Nat} {st : St} {k : Str} {Q : Sl → Int → AH → Prop} (g : Glob ro) (hT : TreeIs tag σ 10 T st) (hi : Inv st) (hs : SL.Sep ro σ) (hn : st.length ≤ 4294967296)
    (hQ : ∀ s tag' σ', StepS [22] ro tag σ tag' σ' → Row tag' σ' 22 9 s ((kidsOf st k).1.map Pa.vS) → Q s (kidsOf st k).2 σ') : c_ztree_Tree_Children B ro (some ⟨T, 0, none⟩) (S k) σ Q := by
  obtain ⟨M, bs, hA⟩ := hT
  have hpaths : ∀ p ∈ st, ∃ ps, parts p.1 = some ps := fun p hp => hi.path _ _ ((lookup_iff hi.keys (k := p.1) (n := p.2)).2 hp)
  refine children_ok (q := 22) g (by decide) (by decide) (by decide) hA hpaths (by omega) (fun hb => ?_) (fun ps hps hl => ?_) fun n hl s tag1 σ1 ks st1 hpm hsr r1 => ?_
  · rw [L_S] at hb
    have e : kidsOf st k = ([], 20) := by unfold kidsOf; rw [hb]
    rw [e] at hQ
    exact hQ _ tag σ (StepS.refl hs) (Row.nil _ _)
  · rw [L_S] at hps hl
    have e : kidsOf st k = ([], 70) := by unfold kidsOf; rw [hps, hl]
    rw [e] at hQ
    exact hQ _ tag σ (StepS.refl hs) (Row.nil _ _)
  · rw [L_S] at hl r1
    obtain ⟨ps, hps⟩ := hi.path _ _ hl
    have e : kidsOf st k = (namesOf ((srt st).map (·.1)) k, 0) := by unfold kidsOf; rw [hps, hl]
    rw [e] at hQ
    rw [srt_keys hi.keys hpm hsr] at r1
    exact hQ _ tag1 σ1 (st1.s (by simp)) r1
theorem chr_ok {U : Nat} {st : St} {k : Str} {Q : Sl → Int → AH → Prop} (hU : RefIs tag σ 11 U (srt st)) (hi : Inv st) (hn : st.length ≤ 4294967296)
    (hQ : ∀ s tag' σ', StepS [0, 24] ro tag σ tag' σ' → Row tag' σ' 24 9 s ((kidsOf st k).1.map Pa.vS) → Q s (kidsOf st k).2 σ') : c_ref07_Tree_Children B ro (some ⟨U, 0, none⟩) (S k) σ Q := by
  have hk := hi.keys
  refine children7_ok (q := 24) (by decide) (by decide) (by decide) (by decide) (by decide) (by decide) hU (by rw [(srt_perm st).length_eq]; exact hn) (fun hb tag1 σ1 st1 => ?_) (fun ps hps hl tag1 σ1 st1 => ?_) fun n hl s tag1 σ1 st1 r1 => ?_
  · have e : kidsOf st k = ([], 20) := by unfold kidsOf; rw [hb]
    rw [e] at hQ
    exact hQ _ tag1 σ1 (st1.mono (by decide)) (Row.nil _ _)
  · rw [lookup_perm (srt_perm st) (by exact (srt_srt hk).nodup)] at hl
    have e : kidsOf st k = ([], 70) := by unfold kidsOf; rw [hps, hl]
    rw [e] at hQ
    exact hQ _ tag1 σ1 (st1.mono (by decide)) (Row.nil _ _)
  · rw [lookup_perm (srt_perm st) (by exact (srt_srt hk).nodup)] at hl
    obtain ⟨ps, hps⟩ := hi.path _ _ hl
    have e : kidsOf st k = (namesOf ((srt st).map (·.1)) k, 0) := by unfold kidsOf; rw [hps, hl]
    rw [e] at hQ
    exact hQ _ tag1 σ1 st1 r1
theorem paz_ok {T : Nat} {st : St} {k : Str} {Q : Sl → Int → AH → Prop} (g : Glob ro) (hT : TreeIs tag σ 10 T st) (hi : Inv st) (hn : st.length ≤ 4294967296)
    (hQ : ∀ s tag' σ', StepS [26] ro tag σ tag' σ' → Row tag' σ' 26 9 s ((underOf st k).1.map Pa.vS) → Q s (underOf st k).2 σ') : c_ztree_Tree_Paths B ro (some ⟨T, 0, none⟩) (S k) σ Q := by
  obtain ⟨M, bs, hA⟩ := hT
  have hpaths : ∀ p ∈ st, ∃ ps, parts p.1 = some ps := fun p hp => hi.path _ _ ((lookup_iff hi.keys (k := p.1) (n := p.2)).2 hp)
  refine pathsAny_ok (q := 26) g (by decide) (by decide) (by decide) hA hpaths (by omega) (fun hb tag1 σ1 st1 => ?_) fun ps hps s tag1 σ1 ks st1 hpm hsr r1 => ?_
  · rw [L_S] at hb
    have e : underOf st k = ([], 20) := by unfold underOf; rw [hb]
    rw [e] at hQ
    exact hQ _ tag1 σ1 ((st1 []).s (by simp)) (Row.nil _ _)
  · rw [L_S] at hps r1
    have e : underOf st k = (((srt st).map (·.1)).filter fun x => isUnder k x, 0) := by unfold underOf; rw [hps]
    rw [e] at hQ
    rw [srt_keys hi.keys hpm hsr] at r1
    exact hQ _ tag1 σ1 (st1.s (by simp)) r1
theorem par_ok {U : Nat} {st : St} {k : Str} {Q : Sl → Int → AH → Prop} (hU : RefIs tag σ 11 U (srt st)) (hi : Inv st) (hn : st.length ≤ 4294967296)
    (hQ : ∀ s tag' σ', StepS [0, 28] ro tag σ tag' σ' → Row tag' σ' 28 9 s ((underOf st k).1.map Pa.vS) → Q s (underOf st k).2 σ') : c_ref07_Tree_Paths B ro (some ⟨U, 0, none⟩) (S k) σ Q := by
  have hpaths : ∀ p ∈ srt st, ∃ ps, parts p.1 = some ps := fun p hp => hi.path _ _ ((lookup_iff hi.keys (k := p.1) (n := p.2)).2 ((srt_perm st).mem_iff.1 hp))
  refine paths7_ok (q := 28) (by decide) (by decide) (by decide) (by decide) (by decide) (by decide) hU hpaths (by rw [(srt_perm st).length_eq]; exact hn) (fun hb tag1 σ1 st1 => ?_) fun ps hps s tag1 σ1 st1 r1 => ?_
  · have e : underOf st k = ([], 20) := by unfold underOf; rw [hb]
    rw [e] at hQ
    exact hQ _ tag1 σ1 (st1.mono (by decide)) (Row.nil _ _)
  · have e : underOf st k = (((srt st).map (·.1)).filter fun x => isUnder k x, 0) := by unfold underOf; rw [hps]
    rw [e] at hQ
    exact hQ _ tag1 σ1 st1 r1
theorem kids_len {st : St} (k : Str) : (kidsOf st k).1.length ≤ st.length ∧ (underOf st k).1.length ≤ st.length := by
  constructor
  · unfold kidsOf
    split
    · simp
    · split
      · simp
      · refine Nat.le_trans (List.length_filterMap_le _ _) ?_
        rw [List.length_map, (srt_perm st).length_eq]; exact Nat.le_refl _
  · unfold underOf
    split
    · simp
    · refine Nat.le_trans (List.length_filter_le _ _) ?_
      rw [List.length_map, (srt_perm st).length_eq]; exact Nat.le_refl _
end Go.Proofs.YthfpmipeejjogaaGreatDoor.Zt

/- The tree and the document's tree are alike. -/
namespace Go.Proofs.YthfpmipeejjogaaGreatDoor.Zt
open Go Go.Proofs.YthfpmipeejjogaaGreatDoor.SL Go.Proofs.YthfpmipeejjogaaGreatDoor.G Go.Proofs.YthfpmipeejjogaaGreatDoor.Pa Go.Proofs.YthfpmipeejjogaaGreatDoor.Wi
set_option linter.unusedSimpArgs false
set_option linter.unusedVariables false
set_option maxRecDepth 100000
variable {B : World} {ro σ σ' : AH} {tag tag' : Nat → Nat}

abbrev vB (x : Int) : Value := .int .u8 x
theorem flip_ok {a0 a1 : Option Addr} {a2 s : Sl} {x54 : Int} {Q : Bool → AH → Prop} {Y : Int → AH → Prop} {vs : List Int} (hs : SL.Sep ro σ) (h : Row tag σ 32 5 s (vs.map vB)) (hl : vs.length ≤ 4611686018427387903)
    (hK : ∀ σ', Step [32] ro tag σ tag σ' → j6_law07_alike B ro a0 a1 a2 x54 Q Y σ') : lfpD (l33_law07_alike B ro a0 a1 a2 x54 s Q Y) (0 : Int) σ := by
  suffices ∀ m j (vs : List Int) σ2, j + m = vs.length → vs.length ≤ 4611686018427387903 → Step [32] ro tag σ tag σ2 → Row tag σ2 32 5 s (vs.map vB) → lfpD (l33_law07_alike B ro a0 a1 a2 x54 s Q Y) (j : Int) σ2 from
    this _ 0 vs σ (Nat.zero_add _) hl (Step.refl hs) h
  intro m
  induction m with
  | zero =>
    intro j vs σ2 hj hl st2 r2
    have hln := r2.len
    rw [List.length_map] at hln
    refine lfpD.intro ?_
    unfold l33_law07_alike
    rw [if_neg (by omega)]
    exact hK σ2 st2
  | succ m ih =>
    intro j vs σ2 hj hl st2 r2
    have hln := r2.len
    rw [List.length_map] at hln
    have hjl : j < vs.length := by omega
    obtain ⟨p, hp, hg⟩ := r2.ptr st2.sep (by simp; omega)
    refine lfpD.intro ?_
    unfold l33_law07_alike
    rw [if_pos (by omega)]
    refine ⟨p, hp, by omega, by omega, vs[j], by rw [Int.toNat_natCast]; exact hg j _ (by rw [List.getElem?_map, List.getElem?_eq_getElem hjl]; rfl), p, hp, by omega, by omega, ?_⟩
    rw [Int.toNat_natCast]
    refine r2.st st2.sep hp (by simpa using hjl) rfl fun σ3 st3 r3 => ?_
    rw [Pa.inc j (by omega)]
    rw [show (vs.map vB).set j (.int .u8 (bitXor .u8 (if IntKind.u8.signed then -1 else IntKind.u8.max) vs[j])) = (vs.set j (bitXor .u8 (if IntKind.u8.signed then -1 else IntKind.u8.max) vs[j])).map vB from by rw [List.map_set]] at r3
    exact ih (j + 1) _ σ3 (by rw [List.length_set]; omega) (by rw [List.length_set]; exact hl) (st2.trans st3) r3
abbrev CA : List Nat := [0, 1, 20, 21, 22, 24, 26, 28, 30, 32]
theorem alike_ok {T U : Nat} {st : St} {a2 a3 : Sl} {ws : List Int} {ps : List Str} {Q : Bool → AH → Prop} (g : Glob ro) (hT : TreeIs tag σ 10 T st) (hU : RefIs tag σ 11 U (srt st)) (hi : Inv3 st) (hn : st.length ≤ 4294967296) (hw : SL.Read ro (fun _ => none) a3 (ws.map vI)) (hwl : ws.length ≤ 4611686018427387903)
    (hrd : ∀ tag' σ', StepS CA ro tag σ tag' σ' → SL.Read ro σ' a2 (ps.map Pa.vS)) (hpl : ps.length ≤ 4611686018427387903)
    (hQ : ∀ tag' σ', StepS CA ro tag σ tag' σ' → Q true σ') :
    c_law07_alike B ro (some ⟨T, 0, none⟩) (some ⟨U, 0, none⟩) a2 a3 σ Q := by
  refine alike_head g hT hU hi hn hw hwl fun tag1 σ1 st1 => ?_
  have st1 := st1.mono (D := CA) (by decide)
  unfold j1_law07_alike
  rw [if_neg (by simp)]
  suffices ∀ m j tag2 σ2, j + m = ps.length → StepS CA ro tag σ tag2 σ2 → lfpD (l4_law07_alike B ro (some ⟨T, 0, none⟩) (some ⟨U, 0, none⟩) a2 Q) (j : Int) σ2 from this _ 0 tag1 σ1 (Nat.zero_add _) st1
  intro m
  induction m with
  | zero =>
    intro j tag2 σ2 hj st2
    have h2 := hrd tag2 σ2 st2
    have hln := h2.1
    rw [List.length_map] at hln
    refine lfpD.intro ?_
    unfold l4_law07_alike
    rw [if_neg (by omega)]
    exact hQ tag2 σ2 st2
  | succ m ih =>
    intro j tag2 σ2 hj st2
    have h2 := hrd tag2 σ2 st2
    have hln := h2.1
    rw [List.length_map] at hln
    have hjl : j < ps.length := by omega
    obtain ⟨p, hp⟩ : ∃ p, a2.a = some p := by
      cases e : a2.a with
      | none => have := h2.2.1 e; simp at this; rw [this] at hjl; simp at hjl
      | some p => exact ⟨p, rfl⟩
    have hcell := h2.2.2 p hp j (Pa.vS ps[j]) (by rw [List.getElem?_map, List.getElem?_eq_getElem hjl]; rfl)
    generalize ps[j] = k at hcell
    have hT2 := hT.keepS st2 (by decide) (by decide)
    have hU2 := hU.keepS st2 (by decide) (by decide)
    refine lfpD.intro ?_
    unfold l4_law07_alike
    rw [if_pos (by omega)]
    refine ⟨p, hp, by omega, by omega, S k, by rw [Int.toNat_natCast, Nat.mul_one]; exact hcell, ?_⟩
    refine getz_ok 32 (by decide) g hT2 hi.inv fun s tag3 σ3 st3 r3 => ?_
    have hU3 := hU2.keepS st3 (by decide) (by decide)
    refine nw_st (tag := tag3) 33 st3.sep rfl (by simp [storable]) fun X12 tag4 σ4 st4 r4 => ?_
    have hU4 := hU3.keepS ((st4 []).s (C := []) (by simp)) (by simp) (by simp)
    have r34 := r3.keep (st4 []) (by simp)
    refine getr_ok hU4 hi.inv hn fun pa d tag5 σ5 st5 rd5 => ?_
    refine nw_st (tag := tag5) 34 st5.sep rfl (by simp [storable, Sl.v]) fun X14 tag6 σ6 st6 r6 => ?_
    have s25 : StepS CA ro tag2 σ2 tag6 σ6 := (st3.mono (by decide)).trans (((st4 []).s (by simp)).trans ((st5.mono (by decide)).trans ((st6 []).s (by simp))))
    have hT6 := hT2.keepS s25 (by decide) (by decide)
    have hU6 := hU2.keepS s25 (by decide) (by decide)
    have r36 := (r34.keepS st5 (by decide)).keep (st6 []) (by simp)
    have r46 := (r4.keepS st5 (by decide)).keep (st6 []) (by simp)
    have rd6 := rd5.keep (st6 []) (by simp)
    refine chz_ok g hT6 hi.inv (st6 []).sep hn fun s7 tag7 σ7 st7 r7 => ?_
    have hU7 := hU6.keepS st7 (by decide) (by decide)
    refine chr_ok hU7 hi.inv hn fun s8 tag8 σ8 st8 r8 => ?_
    have s68 : StepS CA ro tag6 σ6 tag8 σ8 := (st7.mono (by decide)).trans (st8.mono (by decide))
    have hT8 := hT6.keepS s68 (by decide) (by decide)
    refine paz_ok g hT8 hi.inv hn fun s9 tag9 σ9 st9 r9 => ?_
    have hU9 := (hU7.keepS st8 (by decide) (by decide)).keepS st9 (by decide) (by decide)
    refine par_ok hU9 hi.inv hn fun s10 tag10 σ10 st10 r10 => ?_
    have s610 : StepS CA ro tag6 σ6 tag10 σ10 := s68.trans ((st9.mono (by decide)).trans (st10.mono (by decide)))
    have hs10 := st10.sep
    have k3 := (((r36.keepS st7 (by decide)).keepS st8 (by decide)).keepS st9 (by decide)).keepS st10 (by decide)
    have k4 := r46.keepS s610 (by decide)
    have k6 := r6.keepS s610 (by decide)
    have kd := rd6.keepS s610 (by decide)
    have k7 := ((r7.keepS st8 (by decide)).keepS st9 (by decide)).keepS st10 (by decide)
    have k8 := (r8.keepS st9 (by decide)).keepS st10 (by decide)
    have k9 := r9.keepS st10 (by decide)
    obtain ⟨p4, hp4, g4⟩ := k4.ptr hs10 (by simp)
    cases hp4
    obtain ⟨p6, hp6, g6⟩ := k6.ptr hs10 (by simp)
    cases hp6
    obtain ⟨kl1, kl2⟩ := kids_len (st := st) k
    rw [if_neg (by simp)]
    refine ⟨d, g6 1 _ rfl, ?_⟩
    refine same_ok (k3.read hs10) (kd.read hs10) ?_
    rw [decide_eq_true rfl]
    unfold j25_law07_alike
    rw [if_neg (by simp)]
    refine ⟨_, _, _, _, Row.cellsAt k4 hs10, _, g6 2 _ rfl, _, g6 3 _ rfl, _, g6 4 _ rfl, ?_⟩
    refine ne32 ⟨false, rfl, ?_⟩
    unfold j27_law07_alike
    rw [if_neg (by simp)]
    refine sameTexts_ok (k7.read hs10) (k8.read hs10) (by omega) ?_
    unfold j29_law07_alike
    rw [if_neg (by simp)]
    refine sameTexts_ok (k9.read hs10) (r10.read hs10) (by omega) ?_
    unfold j31_law07_alike
    rw [if_neg (by simp)]
    have evB : (ansOf st k).data.map vU = ((ansOf st k).data.map fun c => (c.toNat : Int)).map vB := by rw [List.map_map]; rfl
    rw [evB] at k3
    refine flip_ok hs10 k3 ?_ fun σ11 st11 => ?_
    · rw [List.length_map]
      have : (ansOf st k).data.length ≤ 256 := by
        unfold ansOf
        split
        · simp
        · split
          · simp
          · rename_i n hn'; exact hi.inv.data _ _ hn'
      omega
    unfold j6_law07_alike
    rw [Pa.inc j (by omega)]
    exact ih (j + 1) tag10 σ11 (by omega) (st2.trans (s25.trans (s610.trans (st11.s (by decide)))))
end Go.Proofs.YthfpmipeejjogaaGreatDoor.Zt

/- The document's numbers are read as the wire's. -/
namespace Go.Proofs.YthfpmipeejjogaaGreatDoor.Zt
open Go Go.Proofs.YthfpmipeejjogaaGreatDoor.SL Go.Proofs.YthfpmipeejjogaaGreatDoor.G Go.Proofs.YthfpmipeejjogaaGreatDoor.Pa Go.Proofs.YthfpmipeejjogaaGreatDoor.Wi
set_option linter.unusedSimpArgs false
set_option linter.unusedVariables false
set_option maxRecDepth 100000
variable {B : World} {ro σ σ' : AH} {tag tag' : Nat → Nat}

theorem val_cut {m : Str} {k : Nat} {c : UInt8} (hk : m[k]? = some c) (hc : c.toNat < 128) : val (m.take (k + 1)) = val (m.take k) + 128 ^ k * c.toNat := by
  have hkl : k < m.length := by
    rcases Nat.lt_or_ge k m.length with h | h
    · exact h
    · rw [List.getElem?_eq_none h] at hk; cases hk
  rw [List.take_add_one, hk]
  simp only [Option.toList_some]
  rw [val_snoc, List.length_take, Nat.min_eq_left (by omega), Nat.mod_eq_of_lt hc]
theorem rnumber_ok {s : Sl} {l : Str} {p : Nat} {Q : Int → Int → Int → AH → Prop} (h : SL.Read ro σ s (l.map vU)) (hl : l.length ≤ 140737488355328) (hp : p ≤ l.length)
    (hQ : Q (num (l.drop p)).1 (if (num (l.drop p)).2.2 = 0 then ((p + (num (l.drop p)).2.1 : Nat) : Int) else 0) (num (l.drop p)).2.2 σ) : c_ref01_Number B ro s (p : Int) σ Q := by
  refine ref01_Number_ok fun _ => ?_
  unfold f_ref01_Number
  have hln : s.len = l.length := by rw [h.1, List.length_map]
  rw [if_neg (by omega)]
  obtain ⟨m, hm⟩ : ∃ m, l.drop p = m := ⟨_, rfl⟩
  have hml : m.length + p = l.length := by rw [← hm, List.length_drop]; omega
  rw [hm] at hQ
  have cell : ∀ i (hi : i < m.length), ∃ q : Addr, s.a = some q ∧ acell ro σ (q.add (Int.toNat (IntKind.i64.wrap ((p : Int) + (i : Int))) * 1)) = some (.int .u8 (m[i].toNat : Int)) ∧ IntKind.i64.wrap ((p : Int) + (i : Int)) = ((p + i : Nat) : Int) := fun i hi => by
    obtain ⟨q, hq⟩ : ∃ q, s.a = some q := by
      cases e : s.a with
      | none =>
        have := h.2.1 e
        rw [List.map_eq_nil_iff] at this
        rw [this, List.length_nil] at hml; omega
      | some q => exact ⟨q, rfl⟩
    have e : IntKind.i64.wrap ((p : Int) + (i : Int)) = ((p + i : Nat) : Int) := by rw [SL.w64_eq (by omega) (by omega)]; omega
    refine ⟨q, hq, ?_, e⟩
    rw [e, Int.toNat_natCast, Nat.mul_one]
    refine h.2.2 q hq (p + i) _ ?_
    have : l[p + i]? = some m[i] := by rw [← List.getElem?_drop, hm]; exact List.getElem?_eq_getElem hi
    rw [List.getElem?_map, this]; rfl
  -- the value, from the top
  have value : ∀ (k : Nat) (hk : k < m.length), (∀ i c, i < k → m[i]? = some c → 128 ≤ c.toNat) → k ≤ 8 → val (m.take (k + 1)) < 4611686018427387904 → num m = (val (m.take (k + 1)), k + 1, 0) →
      lfpD (l9_ref01_Number B ro s (p : Int) (k : Int) Q) ((0 : Int), (k : Int)) σ := by
    intro k hk hhi hk8 hv en
    rw [en] at hQ
    simp only [if_true] at hQ
    -- what is left: the places i .. 0; the value so far is that of the places above
    suffices ∀ (i : Nat) (v : Nat), i ≤ k + 1 → val (m.take (k + 1)) = val (m.take i) + 128 ^ i * v → lfpD (l9_ref01_Number B ro s (p : Int) (k : Int) Q) ((v : Int), (i : Int) - 1) σ by
      have h0 := this (k + 1) 0 (by omega) (by rw [Nat.mul_zero]; rfl)
      rw [show (((k + 1 : Nat) : Int) - 1) = (k : Int) by omega] at h0
      exact h0
    intro i
    induction i with
    | zero =>
      intro v hi he
      refine lfpD.intro ?_
      unfold l9_ref01_Number
      simp only
      rw [if_neg (by omega)]
      unfold j7_ref01_Number
      have e1 : val (m.take 0) = 0 := rfl
      rw [e1, Nat.pow_zero, Nat.one_mul, Nat.zero_add] at he
      rw [he] at hQ
      rw [show IntKind.i64.wrap ((IntKind.i64.wrap ((p : Int) + (k : Int))) + 1) = ((p + (k + 1) : Nat) : Int) by rw [SL.w64_eq (n := (p : Int) + (k : Int)) (by omega) (by omega), SL.w64_eq (by omega) (by omega)]; omega]
      exact hQ
    | succ i ih =>
      intro v hi he
      have him : i < m.length := by omega
      obtain ⟨q, hq, hcell, ew⟩ := cell i him
      have hp0 : 0 < 128 ^ i := Nat.pow_pos (by decide)
      have ets : val (m.take (i + 1)) = val (m.take i) + 128 ^ i * (m[i].toNat % 128) := by
        rw [List.take_add_one, List.getElem?_eq_getElem him]
        simp only [Option.toList_some]
        rw [val_snoc, List.length_take, Nat.min_eq_left (by omega)]
      have he2 : val (m.take (k + 1)) = val (m.take i) + 128 ^ i * (v * 128 + m[i].toNat % 128) := by
        rw [he, ets, Nat.pow_succ, Nat.mul_add, Nat.add_assoc, Nat.add_comm (128 ^ i * (v * 128)), Nat.mul_assoc, Nat.mul_comm 128 v]
      have hvb : v * 128 + m[i].toNat % 128 ≤ val (m.take (k + 1)) := by
        rw [he2]
        have := Nat.le_mul_of_pos_left (v * 128 + m[i].toNat % 128) hp0
        omega
      refine lfpD.intro ?_
      unfold l9_ref01_Number
      simp only
      rw [if_pos (by omega)]
      rw [show (((i + 1 : Nat) : Int) - 1) = (i : Int) by omega]
      refine ⟨q, hq, by rw [ew]; omega, by rw [ew]; omega, (m[i].toNat : Int), hcell, ?_⟩
      have hlt := u8_lt m[i]
      have e1 : IntKind.i64.wrap ((IntKind.i64.wrap ((v : Int) * 128)) + (Int.tmod (IntKind.i64.wrap (m[i].toNat : Int)) 128)) = ((v * 128 + m[i].toNat % 128 : Nat) : Int) := by
        rw [SL.w64_eq (n := (v : Int) * 128) (by omega) (by omega), SL.w64_eq (n := (m[i].toNat : Int)) (by omega) (by omega), Int.tmod_eq_emod_of_nonneg (by omega), SL.w64_eq (by omega) (by omega)]
        omega
      rw [e1, show IntKind.i64.wrap ((i : Int) - 1) = (i : Int) - 1 by rw [SL.w64_eq (by omega) (by omega)]]
      exact ih _ (by omega) he2
  have after : ∀ x7 : Int, (x7 = -1 ∧ scan 9 m = none) ∨ (∃ k : Nat, x7 = k ∧ scan 9 m = some k) → j1_ref01_Number B ro s (p : Int) Q x7 σ := by
    intro x7 hx
    have ew : IntKind.i64.wrap ((s.len : Int) - (p : Int)) = (m.length : Int) := by rw [SL.w64_eq (by omega) (by omega)]; omega
    unfold j1_ref01_Number
    rw [ew]
    rcases hx with ⟨rfl, hsc⟩ | ⟨k, rfl, hsc⟩
    · have en : num m = (0, 0, if m.length < 9 then 12 else 13) := by unfold num; rw [hsc]
      rw [en] at hQ
      by_cases c : m.length < 9
      · rw [if_pos (by omega)]
        rw [if_pos c] at hQ; exact hQ
      · rw [if_neg (by omega), if_pos (by decide)]
        unfold j3_ref01_Number
        rw [if_pos rfl]
        unfold j5_ref01_Number
        rw [if_pos rfl]
        rw [if_neg c] at hQ; exact hQ
    · obtain ⟨k9, hkm, hhi, c, hck, hc128⟩ := scan_some 9 m k hsc
      rw [if_neg (by omega), if_neg (by omega)]
      have bad : (0 < k ∧ m[k]? = some 0) ∨ 4611686018427387904 ≤ val (m.take (k + 1)) → Q 0 0 13 σ := fun hb => by
        have en : num m = (0, 0, 13) := by unfold num; rw [hsc]; simp only; rw [if_pos hb]
        rw [en] at hQ; exact hQ
      have good : ¬ ((0 < k ∧ m[k]? = some 0) ∨ 4611686018427387904 ≤ val (m.take (k + 1))) → j5_ref01_Number B ro s (p : Int) (k : Int) Q false σ := fun hb => by
        have en : num m = (val (m.take (k + 1)), k + 1, 0) := by unfold num; rw [hsc]; simp only; rw [if_neg hb]
        unfold j5_ref01_Number
        rw [if_neg (by simp)]
        exact value k hkm hhi (by omega) (by omega) en
      have hmk : m[k] = c := by rw [List.getElem?_eq_getElem hkm] at hck; exact Option.some.inj hck
      have hvt := val_take m k
      have hvc := val_cut hck hc128
      have second : (¬ (0 < k ∧ m[k]? = some 0)) → j3_ref01_Number B ro s (p : Int) (k : Int) Q false σ := fun hz => by
        unfold j3_ref01_Number
        rw [if_neg (by simp)]
        by_cases c8 : k = 8
        · subst c8
          rw [if_pos (by rfl)]
          obtain ⟨q, hq, hcell, ew⟩ := cell 8 hkm
          rw [show ((8 : Nat) : Int) = 8 from rfl] at hcell ew
          refine ⟨q, hq, by rw [ew]; omega, by rw [ew]; omega, (m[8].toNat : Int), hcell, ?_⟩
          unfold j14_ref01_Number
          rw [hmk]
          have e8 : (128 : Nat) ^ 8 = 72057594037927936 := by decide
          rw [e8] at hvt hvc
          by_cases c63 : 63 < c.toNat
          · rw [decide_eq_true (by omega)]
            unfold j5_ref01_Number
            rw [if_pos rfl]
            exact bad (.inr (by omega))
          · rw [decide_eq_false (by omega)]
            exact good (by rintro (h | h); exact hz h; omega)
        · rw [if_neg (by omega)]
          unfold j14_ref01_Number
          refine good ?_
          rintro (h | h)
          · exact hz h
          · have : (128 : Nat) ^ (k + 1) ≤ 128 ^ 8 := Nat.pow_le_pow_right (by decide) (by omega)
            have hv := val_take m (k + 1)
            have e8 : (128 : Nat) ^ 8 = 72057594037927936 := by decide
            omega
      by_cases c0 : 0 < k
      · rw [if_pos (by omega)]
        obtain ⟨q, hq, hcell, ew⟩ := cell k hkm
        refine ⟨q, hq, by rw [ew]; omega, by rw [ew]; omega, (m[k].toNat : Int), hcell, ?_⟩
        unfold j18_ref01_Number
        by_cases cz : c.toNat = 0
        · rw [decide_eq_true (by rw [hmk]; omega)]
          unfold j3_ref01_Number
          rw [if_pos rfl]
          unfold j5_ref01_Number
          rw [if_pos rfl]
          exact bad (.inl ⟨c0, by rw [hck, show c = 0 from u8_eq (by simpa using cz)]⟩)
        · rw [decide_eq_false (by rw [hmk]; omega)]
          refine second ?_
          rintro ⟨_, hz⟩
          rw [hck] at hz
          exact cz (by rw [Option.some.inj hz]; rfl)
      · rw [if_neg (by omega)]
        unfold j18_ref01_Number
        exact second fun h => c0 h.1
  suffices ∀ d i, i + d = 9 → i ≤ m.length → (∀ j c, j < i → m[j]? = some c → 128 ≤ c.toNat) → lfpD (l22_ref01_Number B ro s (p : Int) Q) ((-1 : Int), (i : Int)) σ from
    this 9 0 rfl (Nat.zero_le _) fun j c h => absurd h (Nat.not_lt_zero _)
  intro d
  induction d with
  | zero =>
    intro i hi him hall
    refine lfpD.intro ?_
    unfold l22_ref01_Number
    simp only
    rw [if_neg (by omega)]
    exact after _ (.inl ⟨rfl, scan_none_of 9 m fun j c hj hc => hall j c (by omega) hc⟩)
  | succ d ih =>
    intro i hi him hall
    have ew : IntKind.i64.wrap ((p : Int) + (i : Int)) = ((p + i : Nat) : Int) := by rw [SL.w64_eq (by omega) (by omega)]; omega
    refine lfpD.intro ?_
    unfold l22_ref01_Number
    simp only
    by_cases c : i < m.length
    · rw [if_pos ⟨⟨by omega, by rw [ew]; omega⟩, by decide⟩]
      obtain ⟨q, hq, hcell, _⟩ := cell i c
      refine ⟨q, hq, by rw [ew]; omega, by rw [ew]; omega, (m[i].toNat : Int), hcell, ?_⟩
      by_cases c1 : m[i].toNat < 128
      · rw [if_pos (by omega)]
        unfold j25_ref01_Number
        rw [Pa.inc i (by omega)]
        refine lfpD.intro ?_
        simp only
        rw [if_neg (by omega)]
        exact after _ (.inr ⟨i, rfl, scan_of 9 m i m[i] (by omega) hall (List.getElem?_eq_getElem c) c1⟩)
      · rw [if_neg (by omega)]
        unfold j25_ref01_Number
        rw [Pa.inc i (by omega)]
        refine ih (i + 1) (by omega) (by omega) fun j x hj hx => ?_
        rcases Nat.lt_or_ge j i with h | h
        · exact hall j x h hx
        · obtain rfl : j = i := by omega
          rw [List.getElem?_eq_getElem c] at hx
          cases hx; omega
    · rw [if_neg (by rw [ew]; omega)]
      refine after _ (.inl ⟨rfl, scan_none_of 9 m fun j x hj hx => ?_⟩)
      have hjl : j < m.length := by
        rcases Nat.lt_or_ge j m.length with h | h
        · exact h
        · rw [List.getElem?_eq_none h] at hx; cases hx
      exact hall j x (by omega) hx
end Go.Proofs.YthfpmipeejjogaaGreatDoor.Zt

/- The document's reader. -/
namespace Go.Proofs.YthfpmipeejjogaaGreatDoor.Zt
open Go Go.Proofs.YthfpmipeejjogaaGreatDoor.SL Go.Proofs.YthfpmipeejjogaaGreatDoor.G Go.Proofs.YthfpmipeejjogaaGreatDoor.Pa Go.Proofs.YthfpmipeejjogaaGreatDoor.Wi
set_option linter.unusedSimpArgs false
set_option linter.unusedVariables false
set_option maxRecDepth 100000
variable {B : World} {ro σ σ' : AH} {tag tag' : Nat → Nat}

/-- a reader of the document: its block, the bytes (read only), what is left and the error -/
def RdIs (tag : Nat → Nat) (σ : AH) (q X : Nat) (s : Sl) (l : Str) (rd : Rd) : Prop := ∃ p : Nat, p ≤ l.length ∧ rd.rest = l.drop p ∧ Row tag σ q 154 ⟨some ⟨X, 0, none⟩, 3, 3⟩ [Sl.v s, .int .i64 (p : Int), .int .i64 rd.err]
theorem rdnum_ok {q X : Nat} {s : Sl} {l : Str} {rd : Rd} {Q : Int → AH → Prop} (h : RdIs tag σ q X s l rd) (hr : SL.Read ro (fun _ => none) s (l.map vU)) (hl : l.length ≤ 140737488355328)
    (hQ : ∀ σ', Step [q] ro tag σ tag σ' → RdIs tag σ' q X s l (rnum rd).2 → Q ((rnum rd).1 : Nat) σ') : c_ref01_Reader_Num B ro (some ⟨X, 0, none⟩) σ Q := by
  refine ref01_Reader_Num_ok fun hs => ?_
  unfold f_ref01_Reader_Num
  obtain ⟨p, hp, hrest, r⟩ := id h
  obtain ⟨pp, hpp, hg⟩ := r.ptr hs (by simp)
  cases hpp
  refine ⟨_, rfl, _, hg 2 _ rfl, ?_⟩
  by_cases c : rd.err = 0
  · rw [if_neg (by simpa using c)]
    refine ⟨_, rfl, _, rfl, s, hg 0 _ rfl, _, hg 1 _ rfl, ?_⟩
    refine rnumber_ok hr.keep hl hp ?_
    have e : rnum rd = ((num (l.drop p)).1, ⟨(l.drop p).drop (num (l.drop p)).2.1, (num (l.drop p)).2.2⟩) := by
      unfold rnum; rw [if_neg (by simpa using c), hrest]
    rw [e] at hQ
    have hle := (num_le (l.drop p)).1
    rw [List.length_drop] at hle
    by_cases c2 : (num (l.drop p)).2.2 = 0
    · rw [if_pos c2, if_neg (by simpa using c2)]
      refine ⟨_, rfl, ?_⟩
      refine r.st (i := 1) hs rfl (by simp) rfl fun σ2 st2 r2 => ?_
      refine hQ σ2 st2 ⟨p + (num (l.drop p)).2.1, by omega, by rw [List.drop_drop], ?_⟩
      simp only [c2]
      rw [c] at r2; exact r2
    · obtain ⟨e1, e2, _⟩ := num_err c2
      rw [if_neg c2, if_pos c2]
      refine ⟨_, rfl, ?_⟩
      refine r.st (i := 2) hs rfl (by simp) rfl fun σ2 st2 r2 => ?_
      rw [e1] at hQ
      exact hQ σ2 st2 ⟨p, hp, by rw [e2]; rfl, r2⟩
  · rw [if_pos c]
    rw [rnum_bad c] at hQ
    exact hQ σ (Step.refl hs) h
theorem rdleft_ok {q X : Nat} {s : Sl} {l : Str} {rd : Rd} {Q : Int → AH → Prop} (h : RdIs tag σ q X s l rd) (hr : SL.Read ro (fun _ => none) s (l.map vU)) (hl : l.length ≤ 140737488355328)
    (hQ : Q (rd.rest.length : Nat) σ) : c_ref01_Reader_Left B ro (some ⟨X, 0, none⟩) σ Q := by
  refine ref01_Reader_Left_ok fun hs => ?_
  unfold f_ref01_Reader_Left
  obtain ⟨p, hp, hrest, r⟩ := id h
  obtain ⟨pp, hpp, hg⟩ := r.ptr hs (by simp)
  cases hpp
  have hln : s.len = l.length := by rw [hr.1, List.length_map]
  refine ⟨_, rfl, _, rfl, s, hg 0 _ rfl, _, hg 1 _ rfl, ?_⟩
  rw [SL.w64_eq (by omega) (by omega)]
  rw [hrest, List.length_drop] at hQ
  rw [show ((s.len : Int) - (p : Int)) = ((l.length - p : Nat) : Int) by omega]
  exact hQ
end Go.Proofs.YthfpmipeejjogaaGreatDoor.Zt

/- The document's reader: Blob. -/
namespace Go.Proofs.YthfpmipeejjogaaGreatDoor.SL
open Go
variable {ro σ σ' : AH} {tag tag' : Nat → Nat}
theorem addr_add (a : Addr) (p i : Nat) : (a.add p).add i = a.add (p + i) := by
  unfold Addr.add
  by_cases hp : p = 0
  · subst hp; simp
  · by_cases hi : i = 0
    · subst hi; simp [hp]
    · simp [hp, hi, Nat.add_assoc]
theorem Read.cut {s : Sl} {l : List Value} {p n : Nat} (h : Read ro σ s l) (hc : s.len ≤ s.cap) (hn : p + n ≤ l.length) : Read ro σ ⟨cutA s.a p s.cap 1, p + n - p, s.cap - p⟩ ((l.drop p).take n) := by
  have hl := h.1
  refine ⟨by simp; omega, fun ha => ?_, fun a ha i v hv => ?_⟩
  · unfold cutA at ha
    split at ha
    · rename_i e
      have : n = 0 := by omega
      subst this; simp
    · cases hs : s.a with
      | none => rw [h.2.1 hs] at hn ⊢; simp
      | some x => rw [hs] at ha; simp at ha
  · rw [List.getElem?_take] at hv
    split at hv
    · rename_i hin
      rw [List.getElem?_drop] at hv
      unfold cutA at ha
      split at ha
      · omega
      · cases hs : s.a with
        | none => rw [hs] at ha; cases ha
        | some x =>
          rw [hs] at ha
          simp only [Option.map_some, Nat.mul_one] at ha
          cases ha
          rw [addr_add]
          exact h.2.2 x hs (p + i) v hv
    · cases hv
end Go.Proofs.YthfpmipeejjogaaGreatDoor.SL
namespace Go.Proofs.YthfpmipeejjogaaGreatDoor.Zt
open Go Go.Proofs.YthfpmipeejjogaaGreatDoor.SL Go.Proofs.YthfpmipeejjogaaGreatDoor.G Go.Proofs.YthfpmipeejjogaaGreatDoor.Pa Go.Proofs.YthfpmipeejjogaaGreatDoor.Wi
set_option linter.unusedSimpArgs false
set_option linter.unusedVariables false
set_option maxRecDepth 100000
variable {B : World} {ro σ σ' : AH} {tag tag' : Nat → Nat}
theorem rdblob_ok {q X : Nat} {s : Sl} {l : Str} {rd : Rd} {Q : Sl → AH → Prop} (hq6 : q ≠ 6) (h : RdIs tag σ q X s l rd) (hr : SL.Read ro (fun _ => none) s (l.map vU)) (hc : s.len ≤ s.cap) (hl : l.length ≤ 140737488355328)
    (hQ : ∀ d tag' σ', Step [q] ro tag σ tag' σ' → RdIs tag' σ' q X s l (rblob rd).2 → Row tag' σ' 6 5 d ((rblob rd).1.map vU) → Q d σ') : c_ref01_Reader_Blob B ro (some ⟨X, 0, none⟩) σ Q := by
  refine ref01_Reader_Blob_ok fun hs => ?_
  unfold f_ref01_Reader_Blob
  have hln : s.len = l.length := by rw [hr.1, List.length_map]
  obtain ⟨p, hp, hrest, r⟩ := id h
  obtain ⟨pp, hpp, hg⟩ := r.ptr hs (by simp)
  cases hpp
  refine ⟨_, rfl, _, hg 1 _ rfl, ?_⟩
  refine rdnum_ok h hr hl fun σ1 st1 h1 => ?_
  obtain ⟨p1, hp1, hrest1, r1⟩ := id h1
  obtain ⟨pp, hpp, hg1⟩ := r1.ptr st1.sep (by simp)
  cases hpp
  refine ⟨_, rfl, _, hg1 2 _ rfl, ?_⟩
  by_cases c : (rnum rd).2.err = 0
  · rw [if_neg (by simpa using c)]
    refine rdleft_ok h1 hr hl ?_
    by_cases c2 : (rnum rd).2.rest.length < (rnum rd).1
    · rw [if_pos (by omega)]
      have e : rblob rd = ([], ⟨rd.rest, 12⟩) := by unfold rblob; rw [if_neg (by simpa using c), if_pos c2]
      rw [e] at hQ
      refine ⟨_, rfl, ?_⟩
      refine r1.st (i := 2) st1.sep rfl (by simp) rfl fun σ2 st2 r2 => ?_
      refine ⟨_, rfl, ?_⟩
      refine r2.st (i := 1) st2.sep rfl (by simp) rfl fun σ3 st3 r3 => ?_
      exact hQ _ tag σ3 (st1.trans (st2.trans st3)) ⟨p, hp, hrest, r3⟩ (Row.nil _ _)
    · rw [if_neg (by omega)]
      have e : rblob rd = ((rnum rd).2.rest.take (rnum rd).1, ⟨(rnum rd).2.rest.drop (rnum rd).1, 0⟩) := by unfold rblob; rw [if_neg (by simpa using c), if_neg c2]
      rw [e] at hQ
      generalize (rnum rd).1 = n at c2 hQ
      rw [hrest1, List.length_drop] at c2
      rw [hrest1] at hQ
      have ew : IntKind.i64.wrap ((p1 : Int) + (n : Int)) = ((p1 + n : Nat) : Int) := by rw [SL.w64_eq (by omega) (by omega)]; omega
      refine ⟨_, rfl, _, rfl, _, rfl, s, hg1 0 _ rfl, _, hg1 1 _ rfl, _, hg1 1 _ rfl, ?_⟩
      rw [ew, Int.toNat_natCast, Int.toNat_natCast]
      refine ⟨⟨⟨by omega, by omega⟩, ⟨by omega, by simp [cutHi]; omega⟩⟩, ?_⟩
      have hcut := Read.cut (p := p1) (n := n) (hr.keep (σ := σ1)) hc (by rw [List.length_map]; omega)
      refine copy_ok (tag := tag) (l := ((l.drop p1).take n).map vU) (by rw [List.map_take, List.map_drop]; exact hcut) st1.sep (by rw [List.length_map, List.length_take, List.length_drop]; omega) (fun v hv => by obtain ⟨c, _, rfl⟩ := List.mem_map.1 hv; rfl) fun d tag2 σ2 st2 r2 => ?_
      have r12 := r1.keep (st2 []) (by simp)
      obtain ⟨pp, hpp, hg2⟩ := r12.ptr (st2 []).sep (by simp)
      cases hpp
      refine ⟨_, rfl, _, hg2 1 _ rfl, _, rfl, ?_⟩
      rw [ew]
      refine r12.st (i := 1) (st2 []).sep rfl (by simp) rfl fun σ3 st3 r3 => ?_
      rw [c] at r3
      exact hQ d tag2 σ3 (st1.trans ((st2 _).trans st3)) ⟨p1 + n, by omega, by simp only; rw [List.drop_drop], r3⟩ (r2.keep st3 (by simp; omega))
  · rw [if_pos c]
    have e : rblob rd = ([], (rnum rd).2) := by unfold rblob; rw [if_pos c]
    rw [e] at hQ
    exact hQ _ tag σ1 st1 h1 (Row.nil _ _)
end Go.Proofs.YthfpmipeejjogaaGreatDoor.Zt

/- What bytes tell is a tree: the pure invariant of dec. -/
namespace Go.Proofs.YthfpmipeejjogaaGreatDoor.Zt
open Go Go.Proofs.YthfpmipeejjogaaGreatDoor.SL Go.Proofs.YthfpmipeejjogaaGreatDoor.G Go.Proofs.YthfpmipeejjogaaGreatDoor.Pa Go.Proofs.YthfpmipeejjogaaGreatDoor.Wi
set_option linter.unusedSimpArgs false
set_option linter.unusedVariables false

/-- behind each node that is laid -/
structure Laid (a : St) (last : Str) : Prop where
  srt : Srt a
  top : ∀ p ∈ a, p.1 ≤ last
  path : ∀ p ∈ a, ∃ ps, parts p.1 = some ps
  up : ∀ k n, a.lookup k = some n → k ≠ [47] → ∃ u m, parent k = some u ∧ a.lookup u = some m ∧ m.own = 0
  kids : ∀ k n, a.lookup k = some n → n.kids = (kc (a.map (·.1)) k : Nat)
  data : ∀ k n, a.lookup k = some n → n.data.length ≤ 256
  nums : ∀ k n, a.lookup k = some n → numsOk n = true ∧ (n.own ≠ 0 → n.ctr = 0) ∧ n.ctr ≤ 10000000000
  rt : ∀ n, a.lookup [47] = some n → n.data = [] ∧ n.ver = 0 ∧ n.own = 0
  root : last ≠ [] → ∃ n, a.lookup [47] = some n
theorem laid_nil : Laid [] [] := ⟨List.Pairwise.nil, (by simp), (by simp), (fun k n h => by cases h), (fun k n h => by cases h), (fun k n h => by cases h), (fun k n h => by cases h), (fun n h => by cases h), fun h => absurd rfl h⟩
theorem Laid.inv3 {a : St} {last : Str} (h : Laid a last) (hl : last ≠ []) (hk : a.all (fun p => decide (p.2.kids ≤ p.2.ctr)) = true) : Inv3 a := by
  have hn := h.srt.nodup
  refine ⟨⟨hn, h.root hl, fun k n hk' => ?_, h.up, h.kids, fun k n hk' => ?_, h.data⟩, fun k n hk' => ⟨(h.nums k n hk').1, (h.nums k n hk').2.1⟩, h.rt⟩
  · exact h.path _ ((lookup_iff hn).1 hk')
  · have := List.all_eq_true.1 hk _ ((lookup_iff hn).1 hk')
    exact ⟨by simpa using this, (h.nums k n hk').2.2⟩
theorem laid_step {a a' : St} {last p : Str} {n : Nd} (h : Laid a last) (hlen : a.length ≤ 4611686018427387000) (hn : numsOk n = true) (hk : n.kids = 0) (e : lay a last p n = some a') : Laid a' p ∧ p ≠ [] ∧ a'.length = a.length + 1 := by
  unfold lay at e
  split at e
  · cases e
  rename_i hc
  simp only [not_or, not_and, Nat.not_lt, Int.not_lt] at hc
  obtain ⟨c1, c2, c3, c4, c5⟩ := hc
  obtain ⟨ps, hps⟩ : ∃ ps, parts p = some ps := by
    cases hp : parts p with
    | none => exact absurd hp c1
    | some ps => exact ⟨ps, rfl⟩
  have hpne := path_ne hps
  have hlt : last < p := snot_le.1 c2
  have hnum : n.own ≠ 0 → n.ctr = 0 := fun ho => by
    have h0 : 0 ≤ n.ctr := by
      unfold numsOk rightN at hn
      simp only [Bool.and_eq_true, decide_eq_true_eq] at hn
      exact hn.1.2.1
    have := c5 ho
    omega
  have hnot : a.lookup p = none := by
    cases hl : a.lookup p with
    | none => rfl
    | some m =>
      have := h.top _ ((lookup_iff h.srt.nodup).1 hl)
      exact absurd this c2
  split at e
  · rename_i hlast
    split at e
    · rename_i hr
      cases e
      obtain ⟨rfl, r1, r2, r3⟩ := hr
      have ha : a = [] := by
        cases a with
        | nil => rfl
        | cons q r =>
          have h1 := h.top q (by simp)
          obtain ⟨qs, hqs⟩ := h.path q (by simp)
          rw [hlast] at h1
          exact absurd (List.le_nil.1 h1) (path_ne hqs)
      subst ha
      have hl : ∀ k m, List.lookup k ([] ++ [(([47] : Str), n)]) = some m → k = [47] ∧ m = n := fun k m hm => by
        rw [List.nil_append, List.lookup_cons] at hm
        by_cases ck : k = [47]
        · subst ck; simp at hm; exact ⟨rfl, hm.symm⟩
        · rw [show (k == [47]) = false by simpa using ck] at hm; cases hm
      refine ⟨⟨by simp [Srt], by simp, fun q hq => by simp at hq; subst hq; exact ⟨ps, hps⟩, fun k m hm hne => absurd (hl k m hm).1 hne, fun k m hm => ?_, fun k m hm => by rw [(hl k m hm).2]; omega, fun k m hm => by rw [(hl k m hm).2]; exact ⟨hn, hnum, by omega⟩, fun m hm => by rw [(hl _ m hm).2]; exact ⟨r1, r2, r3⟩, fun _ => ⟨n, by simp⟩⟩, by simp, by simp⟩
      obtain ⟨rfl, rfl⟩ := hl k m hm
      rw [hk]; rfl
    · cases e
  · rename_i hlast
    cases hpu : parent p with
    | none => rw [hpu] at e; cases e
    | some u =>
      rw [hpu] at e
      simp only at e
      cases hlu : a.lookup u with
      | none => rw [hlu] at e; cases e
      | some m =>
        rw [hlu] at e
        simp only at e
        split at e
        · cases e
        rename_i hmo
        simp only [Classical.not_not] at hmo
        cases e
        have hpnu : p ≠ u := parent_ne hpu
        have hkeys : (modN a u more ++ [(p, n)]).map (·.1) = a.map (·.1) ++ [p] := by rw [List.map_append, keys_mod]; rfl
        have lk : ∀ k, (modN a u more ++ [(p, n)]).lookup k = if k = p then some n else if k = u then (a.lookup k).map more else a.lookup k := fun k => by
          rw [lookup_app, lookup_mod]
          by_cases ck : k = p
          · subst ck; rw [if_neg hpnu, hnot, if_pos rfl]
          
          · rw [if_neg ck]
            by_cases cu : k = u
            · subst cu; simp [hlu, ck]
            · rw [if_neg cu]; cases a.lookup k <;> simp [ck]
        have old : ∀ k x, (modN a u more ++ [(p, n)]).lookup k = some x → k ≠ p → ∃ y, a.lookup k = some y ∧ x.own = y.own ∧ x.data = y.data ∧ x.ver = y.ver ∧ x.ctr = y.ctr ∧ x.kids = if k = u then IntKind.i64.wrap (y.kids + 1) else y.kids := fun k x hx ck => by
          rw [lk, if_neg ck] at hx
          by_cases cu : k = u
          · rw [if_pos cu] at hx
            obtain ⟨y, hy, rfl⟩ := Option.map_eq_some_iff.1 hx
            exact ⟨y, hy, rfl, rfl, rfl, rfl, by rw [if_pos cu]; rfl⟩
          · rw [if_neg cu] at hx
            exact ⟨x, hx, rfl, rfl, rfl, rfl, by rw [if_neg cu]⟩
        have self : ∀ x, (modN a u more ++ [(p, n)]).lookup p = some x → x = n := fun x hx => by
          rw [lk, if_pos rfl] at hx; exact (Option.some.inj hx).symm
        have up' : ∀ k y, a.lookup k = some y → ∃ x, (modN a u more ++ [(p, n)]).lookup k = some x ∧ x.own = y.own := fun k y hy => by
          have ck : k ≠ p := fun e => by rw [e, hnot] at hy; cases hy
          rw [lk, if_neg ck]
          by_cases cu : k = u
          · rw [if_pos cu, hy]; exact ⟨_, rfl, rfl⟩
          · rw [if_neg cu]; exact ⟨y, hy, rfl⟩
        have hr47 : p ≠ [47] := fun e => by rw [e, root_parent] at hpu; cases hpu
        have hkc0 : kc (a.map (·.1)) p = 0 := Classical.byContradiction fun h0 => by
          obtain ⟨q, hq, hqp⟩ := kc_pos h0
          obtain ⟨y, hy, rfl⟩ := List.mem_map.1 hq
          have h1 := parent_lt hqp
          have h2 := h.top y hy
          exact c2 (List.le_trans (List.le_of_lt h1) h2)
        refine ⟨⟨?_, fun q hq => ?_, fun q hq => ?_, fun k x hx hne => ?_, fun k x hx => ?_, fun k x hx => ?_, fun k x hx => ?_, fun x hx => ?_, fun _ => ?_⟩, hpne, by simp [modN]⟩
        · have hs := (List.pairwise_map (f := fun q : Str × Nd => q.1) (R := fun x y : Str => x < y) (l := a)).2 h.srt
          refine (List.pairwise_map (f := fun q : Str × Nd => q.1) (R := fun x y : Str => x < y) (l := modN a u more ++ [(p, n)])).1 ?_
          rw [hkeys]
          refine List.pairwise_append.2 ⟨hs, by simp, fun x hx y hy => ?_⟩
          obtain ⟨z, hz, rfl⟩ := List.mem_map.1 hx
          simp at hy; subst hy
          exact List.lt_of_le_of_lt (h.top z hz) hlt
        · have : q.1 ∈ a.map (·.1) ++ [p] := by rw [← hkeys]; exact List.mem_map.2 ⟨q, hq, rfl⟩
          rcases List.mem_append.1 this with h1 | h1
          · obtain ⟨z, hz, ez⟩ := List.mem_map.1 h1
            rw [← ez]; exact List.le_trans (h.top z hz) (List.le_of_lt hlt)
          · simp at h1; rw [h1]; exact List.le_refl _
        · have : q.1 ∈ a.map (·.1) ++ [p] := by rw [← hkeys]; exact List.mem_map.2 ⟨q, hq, rfl⟩
          rcases List.mem_append.1 this with h1 | h1
          · obtain ⟨z, hz, ez⟩ := List.mem_map.1 h1
            rw [← ez]; exact h.path z hz
          · simp at h1; rw [h1]; exact ⟨ps, hps⟩
        · by_cases ck : k = p
          · subst ck
            obtain ⟨x', hx', ho⟩ := up' u m hlu
            exact ⟨u, x', hpu, hx', by rw [ho]; exact hmo⟩
          · obtain ⟨y, hy, _⟩ := old k x hx ck
            obtain ⟨w, z, w1, w2, w3⟩ := h.up k y hy hne
            obtain ⟨x', hx', ho⟩ := up' w z w2
            exact ⟨w, x', w1, hx', by rw [ho]; exact w3⟩
        · rw [hkeys, kc_snoc]
          by_cases ck : k = p
          · subst ck
            rw [self x hx, hk, hkc0, hpu, if_neg (by simpa using fun e => hpnu e.symm)]; rfl
          · obtain ⟨y, hy, _, _, _, _, hkk⟩ := old k x hx ck
            have hyk := h.kids k y hy
            have hle := kc_le (a.map (·.1)) k
            rw [List.length_map] at hle
            rw [hkk, hpu]
            by_cases cu : k = u
            · subst cu
              rw [if_pos rfl, if_pos rfl, hyk, Pa.inc _ (by omega)]
            · rw [if_neg cu, if_neg (by simpa using fun e => cu e.symm), hyk]; rfl
        · by_cases ck : k = p
          · subst ck; rw [self x hx]; omega
          · obtain ⟨y, hy, _, hd, _⟩ := old k x hx ck
            rw [hd]; exact h.data k y hy
        · by_cases ck : k = p
          · subst ck; rw [self x hx]; exact ⟨hn, hnum, by omega⟩
          · obtain ⟨y, hy, h1, _, h3, h4, _⟩ := old k x hx ck
            obtain ⟨z1, z2, z3⟩ := h.nums k y hy
            exact ⟨by unfold numsOk at z1 ⊢; rw [h1, h3, h4]; exact z1, by rw [h1, h4]; exact z2, by rw [h4]; exact z3⟩
        · obtain ⟨y, hy, h1, h2, h3, _⟩ := old [47] x hx (Ne.symm hr47)
          obtain ⟨z1, z2, z3⟩ := h.rt y hy
          exact ⟨by rw [h2]; exact z1, by rw [h3]; exact z2, by rw [h1]; exact z3⟩
        · obtain ⟨y, hy⟩ := h.root hlast
          obtain ⟨x', hx', _⟩ := up' _ y hy
          exact ⟨x', hx'⟩
theorem rnum_lt (r : Rd) : (rnum r).1 < 4611686018427387904 := by
  unfold rnum
  split
  · simp
  · exact (num_le _).2
theorem decL_laid : ∀ (f : Nat) (rd : Rd) (a : St) (last : Str) (st : St), decL f rd a last = some st → Laid a last → a.length + f ≤ 4611686018427387000 → ∃ last', last' ≠ [] ∧ Laid st last' ∧ st.length ≤ a.length + f := by
  intro f
  induction f with
  | zero => intro rd a last st e; cases e
  | succ f ih =>
    intro rd a last st e h hl
    unfold decL at e
    split at e
    · rename_i hc
      cases e
      exact ⟨last, hc.2, h, by omega⟩
    · split at e
      · cases e
      · cases hly : lay a last (rnode rd).1.1 (rnode rd).1.2 with
        | none => rw [hly] at e; cases e
        | some a' =>
          rw [hly] at e
          simp only at e
          have hnums : numsOk (rnode rd).1.2 = true := by
            unfold numsOk rightN rnode
            simp only [Bool.and_eq_true, decide_eq_true_eq]
            have k1 := rnum_lt (rblob (rblob rd).2).2
            have k2 := rnum_lt (rnum (rblob (rblob rd).2).2).2
            have k3 := rnum_lt (rnum (rnum (rblob (rblob rd).2).2).2).2
            omega
          obtain ⟨l1, l2, l3⟩ := laid_step h (by omega) hnums rfl hly
          obtain ⟨last', m1, m2, m3⟩ := ih _ a' _ st e l1 (by omega)
          exact ⟨last', m1, m2, by omega⟩
theorem dec_inv3 {b : Str} {st : St} (h : dec b = some st) (hb : b.length ≤ 140737488355328) : Inv3 st ∧ Srt st ∧ st.length ≤ b.length + 1 := by
  unfold dec at h
  cases e : decL (b.length + 1) ⟨b, 0⟩ [] [] with
  | none => rw [e] at h; cases h
  | some st' =>
    rw [e] at h
    simp only at h
    split at h
    · rename_i hk
      cases h
      obtain ⟨last, l1, l2, l3⟩ := decL_laid _ _ _ _ _ e laid_nil (by simp; omega)
      exact ⟨l2.inv3 l1 hk, l2.srt, by simpa using l3⟩
    · cases h
end Go.Proofs.YthfpmipeejjogaaGreatDoor.Zt

/- The document's list of nodes: what changes do to the list that rises. -/
namespace Go.Proofs.YthfpmipeejjogaaGreatDoor.Zt
open Go Go.Proofs.YthfpmipeejjogaaGreatDoor.SL Go.Proofs.YthfpmipeejjogaaGreatDoor.G Go.Proofs.YthfpmipeejjogaaGreatDoor.Pa Go.Proofs.YthfpmipeejjogaaGreatDoor.Wi
set_option linter.unusedSimpArgs false
set_option linter.unusedVariables false
set_option maxRecDepth 100000
variable {B : World} {ro σ σ' : AH} {tag tag' : Nat → Nat}

/-- without the number of kids -/
def nk (p : Str × Nd) : Str × Nd := (p.1, { p.2 with kids := 0 })
theorem zip_nk (l : St) (ds : List Sl) : List.zipWith nodeV (l.map nk) ds = List.zipWith nodeV l ds := by
  induction l generalizing ds with
  | nil => rfl
  | cons p l ih =>
    cases ds with
    | nil => rfl
    | cons d ds => simp only [List.map_cons, List.zipWith_cons_cons, ih]; rfl
theorem RefIs.nk {r T : Nat} {l l' : St} (h : RefIs tag σ r T l) (e : l.map nk = l'.map nk) : RefIs tag σ r T l' := by
  obtain ⟨s, ds, h1, h2, h3, h4⟩ := h
  have hl := congrArg List.length e
  simp only [List.length_map] at hl
  refine ⟨s, ds, by rw [h1, hl], h2, by rw [← zip_nk, ← e, zip_nk]; exact h3, fun i p d hp hd => ?_⟩
  have h5 : (l.map Zt.nk)[i]? = some (Zt.nk p) := by rw [e, List.getElem?_map, hp]; rfl
  rw [List.getElem?_map] at h5
  obtain ⟨p', hp', ep⟩ := Option.map_eq_some_iff.1 h5
  have := h4 i p' d hp' hd
  rw [show p.2.data = p'.2.data from (congrArg (fun x => x.2.data) ep).symm]
  exact this
theorem modN_nk0 {a : St} {u : Str} {f : Nd → Nd} (h : ∀ n, { f n with kids := 0 } = { n with kids := 0 }) : (modN a u f).map nk = a.map nk := by
  unfold modN
  rw [List.map_map]
  refine List.map_congr_left fun p _ => ?_
  simp only [Function.comp]
  split
  · unfold nk; simp only; rw [h]
  · rfl
end Go.Proofs.YthfpmipeejjogaaGreatDoor.Zt

/- The document's tree: lending its blocks, appending a node; the last look of Decode. -/
namespace Go.Proofs.YthfpmipeejjogaaGreatDoor.Zt
open Go Go.Proofs.YthfpmipeejjogaaGreatDoor.SL Go.Proofs.YthfpmipeejjogaaGreatDoor.G Go.Proofs.YthfpmipeejjogaaGreatDoor.Pa Go.Proofs.YthfpmipeejjogaaGreatDoor.Wi
set_option linter.unusedSimpArgs false
set_option linter.unusedVariables false
set_option maxRecDepth 100000
variable {B : World} {ro σ σ' : AH} {tag tag' : Nat → Nat}

theorem join_two (a b : Nat) : join (join (SL.one σ a) (SL.one (SL.del σ a) b)) (SL.del (SL.del σ a) b) = σ := by
  funext c; unfold join SL.one SL.del
  by_cases e : c = a
  · subst e
    cases h : σ c <;> simp
  · by_cases e' : c = b
    · subst e'; cases h : σ c <;> simp [e]
    · simp [e, e']
/-- the blocks of the document's tree lent, to be read -/
theorem lent_ref {r T j : Nat} {l : St} {p : Str × Nd} {K : AH → AH → Prop} (h : RefIs tag σ r T l) (hs : SL.Sep ro σ) (hr : r < 64) (hj : l[j]? = some p)
    (hK : ∀ (s : Sl) (b : Nat) (d : Sl) (ψ τ : AH), join ψ τ = σ → s.a = some ⟨b, 0, none⟩ → s.len = l.length → acell (join ro ψ) (fun _ => none) ⟨T, 0, none⟩ = some (Sl.v s) → acell (join ro ψ) τ ⟨T, 0, none⟩ = some (Sl.v s) →
      (∀ i v, (nodeV p d)[i]? = some v → acell (join ro ψ) (fun _ => none) (((⟨b, 0, none⟩ : Addr).add (Int.toNat (j : Int) * 5)).add i) = some v) →
      (∀ i v, (nodeV p d)[i]? = some v → acell (join ro ψ) τ (((⟨b, 0, none⟩ : Addr).add (Int.toNat (j : Int) * 5)).add i) = some v) → RefM (join ro ψ) τ T l → K ψ τ) : lent σ K := by
  obtain ⟨s, b, ha, hsl, tb, tT, hbo, hTo, hne, hcT⟩ := h.blocks hr hj
  obtain ⟨s', b', d, e1, e2, e3, e4⟩ := (h.m hs).row hj
  have hss : s' = s := by
    have := (hcT ro hs).symm.trans e1
    injection this with this
    injection this with h1 h2 h3
    cases s; cases s'; simp_all
  subst hss
  obtain rfl : b' = b := by rw [ha] at e3; cases e3; rfl
  refine lent_two T b' ?_
  have c1 : acell (join ro (join (SL.one σ T) (SL.one (SL.del σ T) b'))) (fun _ => none) ⟨T, 0, none⟩ = some (Sl.v s') := by
    rw [join_assoc]; exact acell_ro (acell_one (hcT ro hs))
  have c3 : ∀ i v, (nodeV p d)[i]? = some v → acell (join ro (join (SL.one σ T) (SL.one (SL.del σ T) b'))) (fun _ => none) (((⟨b', 0, none⟩ : Addr).add (Int.toNat (j : Int) * 5)).add i) = some v := fun i v hv => by
    rw [join_assoc]
    have := e4 i v hv
    rw [add_add, add_add] at this ⊢
    exact acell_one (a := ⟨b', 0 + Int.toNat (j : Int) * 5 + i, none⟩) (by rw [acell_lent]; exact this)
  refine hK s' b' d _ _ (join_two T b') ha hsl c1 (up c1) c3 (fun i v hv => up (c3 i v hv)) ?_
  rw [join_assoc]
  exact ((h.m hs).lent T).lent b'
where
  up {ro' τ : AH} {a : Addr} {v : Value} (h : acell ro' (fun _ => none) a = some v) : acell ro' τ a = some v := by
    have := acell_ro (ψ := fun _ => none) (τ := τ) h
    have e : join ro' (fun _ => none) = ro' := join_none_right _
    rwa [e] at this
theorem app7_ok {r : Nat} {s : Sl} {L : List (List Value)} {x : List Value} {cs : Array Value} {K : Sl → AH → Prop} (h : RowW tag σ r 159 5 s L) (hs : SL.Sep ro σ) (hx : x.length = 5) (hcs : cs.toList = x) (hv : ∀ v ∈ x, storable v = true) (hl : L.length ≤ 4294967296)
    (hK : ∀ s' tag' σ', Step [r] ro tag σ tag' σ' → RowW tag' σ' r 159 5 s' (L ++ [x]) → K s' σ') :
    nw ro σ (.cells cs 159) fun X σ => awp Tryz.prog ro (Builtin.append_ #[155, 155] 155 #[Sl.v s, Sl.v (⟨some ⟨X, 0, none⟩, 1, 1⟩ : Sl)]) (fun v σ => ∃ s' : Sl, v = Sl.v s' ∧ K s' σ) σ := by
  refine nw_cells (tag := tag) 0 hs fun X tag1 σ1 st1 r1 => ?_
  rw [hcs] at r1
  refine awp_appendW (l2 := [x]) (RowW.keep h (st1 []) (by simp)) (st1 []).sep (Row.readW1 r1 (st1 []).sep hx (by decide)) (t := 155) (by kernel_rfl) ty159 rfl (by simpa using hv) (by simp; omega) (by decide) fun s' tag2 σ2 st2 r2 => ?_
  exact ⟨s', rfl, hK s' tag2 σ2 ((st1 [r]).trans (st2 [r] (.inr (by simp)))) r2⟩
/-- the last look at all nodes -/
theorem fin7_ok {U : Nat} {a : St} {Q : Option Addr → Bool → AH → Prop} (hs : SL.Sep ro σ) (h : RefIs tag σ 11 U a) (hl : a.length ≤ 4294967296)
    (hno : (a.all fun p => decide (((kc (a.map (·.1)) p.1 : Nat) : Int) ≤ p.2.ctr)) = false ∨ a = [] → ∀ T, Q T false σ)
    (hyes : (a.all fun p => decide (((kc (a.map (·.1)) p.1 : Nat) : Int) ≤ p.2.ctr)) = true → a ≠ [] → Q (some ⟨U, 0, none⟩) true σ) : j3_ref07_Decode B ro U Q σ := by
  unfold j3_ref07_Decode
  obtain ⟨s, hT, hsl⟩ := (h.m hs).len
  suffices ∀ m j, j + m = a.length → (∀ (i : Nat) (p : Str × Nd), i < j → a[i]? = some p → ((kc (a.map (·.1)) p.1 : Nat) : Int) ≤ p.2.ctr) → lfpD (l6_ref07_Decode B ro U Q) (j : Int) σ from this _ 0 (Nat.zero_add _) fun i p hi => absurd hi (Nat.not_lt_zero _)
  intro m
  induction m with
  | zero =>
    intro j hj hall
    refine lfpD.intro ?_
    unfold l6_ref07_Decode
    refine ⟨s, hT, ?_⟩
    rw [if_neg (by omega)]
    unfold j4_ref07_Decode
    refine ⟨s, hT, ?_⟩
    by_cases c : a = []
    · rw [decide_eq_false (by rw [hsl, c]; simp)]
      exact hno (.inr c) _
    · rw [decide_eq_true (by have := List.length_pos_iff.2 c; omega)]
      refine hyes (List.all_eq_true.2 fun p hp => ?_) c
      obtain ⟨i, hi, rfl⟩ := List.getElem_of_mem hp
      have := hall i a[i] (by omega) (List.getElem?_eq_getElem hi)
      simpa using this
  | succ m ih =>
    intro j hj hall
    have hjl : j < a.length := by omega
    have hja := List.getElem?_eq_getElem hjl
    refine lfpD.intro ?_
    unfold l6_ref07_Decode
    refine ⟨s, hT, ?_⟩
    rw [if_pos (by omega)]
    refine lent_ref h hs (by decide) hja fun s' b d ψ τ hjn e1 e2 c1 c2 c3 c4 hM => ?_
    refine ⟨s', c1, _, e1, by omega, by omega, a[j].2.ctr, c3 3 _ rfl, s', c2, _, e1, by omega, by omega, S a[j].1, by have := c4 0 _ rfl; rwa [add_zero] at this, ?_⟩
    refine below7_ok hM hl ?_
    intro _
    simp only []
    rw [hjn]
    by_cases c : a[j].2.ctr < ((kc (a.map (·.1)) a[j].1 : Nat) : Int)
    · rw [if_pos c]
      refine hno (.inl ?_) _
      rw [← Bool.not_eq_true, List.all_eq_true]
      intro hall'
      have := hall' a[j] (List.getElem_mem hjl)
      simp at this; omega
    · rw [if_neg c, Pa.inc j (by omega)]
      refine ih (j + 1) (by omega) fun i p hi hp => ?_
      rcases Nat.lt_or_ge i j with h' | h'
      · exact hall i p h' hp
      · obtain rfl : i = j := by omega
        rw [hja] at hp; cases hp; omega
end Go.Proofs.YthfpmipeejjogaaGreatDoor.Zt

/- The document's tree off bytes: Decode. -/
namespace Go.Proofs.YthfpmipeejjogaaGreatDoor.Zt
open Go Go.Proofs.YthfpmipeejjogaaGreatDoor.SL Go.Proofs.YthfpmipeejjogaaGreatDoor.G Go.Proofs.YthfpmipeejjogaaGreatDoor.Pa Go.Proofs.YthfpmipeejjogaaGreatDoor.Wi
set_option linter.unusedSimpArgs false
set_option linter.unusedVariables false
set_option maxRecDepth 100000
variable {B : World} {ro σ σ' : AH} {tag tag' : Nat → Nat}

theorem RdIs.keep {q X : Nat} {s : Sl} {l : Str} {rd : Rd} {R : List Nat} (h : RdIs tag σ q X s l rd) (k : Step R ro tag σ tag' σ') (hq : q ∉ R) : RdIs tag' σ' q X s l rd := by
  obtain ⟨p, h1, h2, h3⟩ := h
  exact ⟨p, h1, h2, h3.keep k hq⟩
theorem RdIs.err {q X : Nat} {s : Sl} {l : Str} {rd : Rd} (h : RdIs tag σ q X s l rd) (hs : SL.Sep ro σ) : acell ro σ ((⟨X, 0, none⟩ : Addr).add 2) = some (.int .i64 rd.err) := by
  obtain ⟨p, h1, h2, h3⟩ := h
  obtain ⟨pp, hpp, hg⟩ := h3.ptr hs (by simp)
  cases hpp
  exact hg 2 _ rfl
theorem rnode_nil : (rnode ⟨[], 0⟩).2.err ≠ 0 := by decide
theorem lay_bad {a : St} {last p : Str} {n : Nd} (h : 256 < n.data.length ∨ 10000000000 < n.ctr ∨ (n.own ≠ 0 ∧ 0 < n.ctr)) : lay a last p n = none := by
  unfold lay
  rw [if_pos (.inr (.inr h))]
theorem lay_root {a : St} {p : Str} {n : Nd} (hb : ¬ (256 < n.data.length ∨ 10000000000 < n.ctr ∨ (n.own ≠ 0 ∧ 0 < n.ctr))) : lay a [] p n = if p = [47] ∧ n.data = [] ∧ n.ver = 0 ∧ n.own = 0 then some (a ++ [(p, n)]) else none := by
  unfold lay
  by_cases hc : parts p = none ∨ p ≤ [] ∨ 256 < n.data.length ∨ 10000000000 < n.ctr ∨ (n.own ≠ 0 ∧ 0 < n.ctr)
  · rw [if_pos hc, if_neg]
    rintro ⟨rfl, _⟩
    rcases hc with h | h | h
    · cases h
    · exact absurd h (by decide)
    · exact hb h
  · rw [if_neg hc, if_pos rfl]
theorem lay_np {a : St} {last p : Str} {n : Nd} (hl : last ≠ []) (h : parent p = none) : lay a last p n = none := by
  unfold lay
  split
  · rfl
  · simp [hl, h]
theorem lay_le {a : St} {last p : Str} {n : Nd} (h : p ≤ last) : lay a last p n = none := by
  unfold lay
  rw [if_pos (.inr (.inl h))]
theorem lay_up {a : St} {last p u : Str} {n : Nd} (hb : ¬ (256 < n.data.length ∨ 10000000000 < n.ctr ∨ (n.own ≠ 0 ∧ 0 < n.ctr))) (hl : last ≠ []) (h : parent p = some u) (hle : ¬ p ≤ last) : lay a last p n = match a.lookup u with | none => none | some m => if m.own ≠ 0 then none else some (modN a u more ++ [(p, n)]) := by
  have hb' : ¬ (parts p = none ∨ p ≤ last ∨ 256 < n.data.length ∨ 10000000000 < n.ctr ∨ (n.own ≠ 0 ∧ 0 < n.ctr)) := by
    rintro (h' | h' | h')
    · obtain ⟨ps, hps⟩ := parts_parent h
      rw [hps] at h'; cases h'
    · exact hle h'
    · exact hb h'
  unfold lay
  rw [if_neg hb', if_neg hl, h]
  simp only
  cases a.lookup u <;> rfl
theorem rnode_nums (rd : Rd) : numsOk (rnode rd).1.2 = true ∧ 0 ≤ (rnode rd).1.2.ctr := by
  unfold numsOk rightN rnode
  simp only [Bool.and_eq_true, decide_eq_true_eq]
  have k1 := rnum_lt (rblob (rblob rd).2).2
  have k2 := rnum_lt (rnum (rblob (rblob rd).2).2).2
  have k3 := rnum_lt (rnum (rnum (rblob (rblob rd).2).2).2).2
  omega
theorem more_nk {a : St} {u : Str} : (modN a u more).map Zt.nk = a.map Zt.nk := modN_nk0 fun n => rfl

theorem decode7_ok {a0 : Sl} {b : Str} {Q : Option Addr → Bool → AH → Prop} (hr : SL.Read ro (fun _ => none) a0 (b.map vU)) (hc : a0.len ≤ a0.cap) (hl : b.length ≤ 1048576)
    (hno : dec b = none → ∀ T tag' σ', StepS [11, 35, 0] ro tag σ tag' σ' → Q T false σ')
    (hyes : ∀ st, dec b = some st → ∀ U tag' σ', StepS [11, 35, 0] ro tag σ tag' σ' → RefIs tag' σ' 11 U st → Q (some ⟨U, 0, none⟩) true σ') : c_ref07_Decode B ro a0 σ Q := by
  refine ref07_Decode_ok fun hs => ?_
  unfold f_ref07_Decode
  refine nw_cells (tag := tag) 35 hs fun X tag1 σ1 st1 r1 => ?_
  refine nw_cells (tag := tag1) 11 (st1 []).sep fun U tag2 σ2 st2 r2 => ?_
  have hl' : b.length ≤ 140737488355328 := by omega
  obtain ⟨R0, hR⟩ : ∃ R0, decL (b.length + 1) ⟨b, 0⟩ [] [] = R0 := ⟨_, rfl⟩
  have hdb : dec b = R0.bind fun st => if st.all fun p => decide (p.2.kids ≤ p.2.ctr) then some st else none := by unfold dec; rw [hR]; cases R0 <;> rfl
  have hrd2 : RdIs tag2 σ2 35 X a0 b ⟨b, 0⟩ := ⟨0, Nat.zero_le _, rfl, r1.keep (st2 []) (by simp)⟩
  have hU2 : RefIs tag2 σ2 11 U [] := ⟨⟨none, 0, 0⟩, [], rfl, r2, RowW.nil _ _ _, fun i p d h => by cases h⟩
  suffices ∀ (f : Nat) (rd : Rd) (a : St) (last : Str) (tag4 : Nat → Nat) (σ4 : AH), decL f rd a last = R0 → rd.rest.length < f → rd.err = 0 → Laid a last → (a = [] → last = []) → (a ≠ [] → last ≠ [] ∧ ∃ n, a[a.length - 1]? = some (last, n)) → a.length + rd.rest.length ≤ b.length →
      StepS [11, 35, 0] ro tag σ tag4 σ4 → RefIs tag4 σ4 11 U a → RdIs tag4 σ4 35 X a0 b rd → lfpD (l16_ref07_Decode B ro X U Q) () σ4 from
    this (b.length + 1) ⟨b, 0⟩ [] [] tag2 σ2 hR (by simp) rfl laid_nil (fun _ => rfl) (fun h => absurd rfl h) (by simp) (((st1 []).s (by simp)).trans ((st2 []).s (by simp))) hU2 hrd2
  intro f
  induction f with
  | zero => intro rd a last tag4 σ4 _ hlt; omega
  | succ f ih =>
    intro rd a last tag4 σ4 hdec hlt herr hlaid hnil hcons hlen hst hU hrd
    have hs4 := hst.sep
    have hal : a.length ≤ 4294967296 := by omega
    unfold decL at hdec
    refine lfpD.intro ?_
    unfold l16_ref07_Decode
    refine rdleft_ok hrd hr hl' ?_
    by_cases hend : rd.rest = []
    · rw [if_neg (by rw [hend]; simp)]
      refine fin7_ok hs4 hU hal (fun h T => hno ?_ T tag4 σ4 hst) (fun h1 h2 => ?_)
      · by_cases c : a = []
        · rw [hnil c] at hdec
          have e : rd = ⟨[], 0⟩ := by cases rd; simp_all
          rw [if_neg (by simp), e, if_pos rnode_nil] at hdec
          rw [hdb, ← hdec]; rfl
        · have hk := h.resolve_right c
          rw [if_pos ⟨hend, (hcons c).1⟩] at hdec
          rw [hdb, ← hdec]
          simp only [Option.bind_some]
          rw [if_neg]
          rw [Bool.not_eq_true, ← hk]
          exact all_congr fun p hp => by rw [hlaid.kids _ _ ((lookup_iff hlaid.srt.nodup).2 hp)]
      · rw [if_pos ⟨hend, (hcons h2).1⟩] at hdec
        refine hyes a ?_ U tag4 σ4 hst hU
        rw [hdb, ← hdec]
        simp only [Option.bind_some]
        rw [if_pos]
        rw [← h1]
        exact all_congr fun p hp => by rw [hlaid.kids _ _ ((lookup_iff hlaid.srt.nodup).2 hp)]
    · rw [if_pos (by have := List.length_pos_iff.2 hend; omega)]
      rw [if_neg fun h => hend h.1] at hdec
      refine rdblob_ok (by decide) hrd hr hc hl' fun d1 tag5 σ5 st5 rd5 k5 => ?_
      refine awp_b2s (k5.read st5.sep) ?_
      refine ⟨_, rfl, ?_⟩
      refine nw_st (tag := tag5) 0 st5.sep rfl (by simp [storable, Sl.v]) fun X6 tag6 σ6 st6 r6 => ?_
      refine rdblob_ok (by decide) (rd5.keep (st6 []) (by simp)) hr hc hl' fun d2 tag7 σ7 st7 rd7 k7 => ?_
      have r7 := r6.keep st7 (by decide)
      refine r7.st (i := 1) st7.sep rfl (by simp) rfl fun σ8 st8 r8 => ?_
      refine rdnum_ok (rd7.keep st8 (by decide)) hr hl' fun σ9 st9 rd9 => ?_
      refine (r8.keep st9 (by decide)).st (i := 2) st9.sep rfl (by simp) rfl fun σa sta ra => ?_
      refine rdnum_ok (rd9.keep sta (by decide)) hr hl' fun σb stb rdb => ?_
      refine (ra.keep stb (by decide)).st (i := 3) stb.sep rfl (by simp) rfl fun σc stc rc => ?_
      refine rdnum_ok (rdb.keep stc (by decide)) hr hl' fun σd std rdd => ?_
      refine (rc.keep std (by decide)).st (i := 4) std.sep rfl (by simp) rfl fun σe ste re => ?_
      have rde := rdd.keep ste (by decide)
      have kd : Row tag7 σe 6 5 d2 ((rnode rd).1.2.data.map vU) := (((((k7.keep st8 (by decide)).keep st9 (by decide)).keep sta (by decide)).keep stb (by decide)).keep stc (by decide)).keep std (by decide) |>.keep ste (by decide)
      have re : Row tag7 σe 0 159 ⟨some ⟨X6, 0, none⟩, 5, 5⟩ (nodeV (rnode rd).1 d2) := re
      have rde : RdIs tag7 σe 35 X a0 b (rnode rd).2 := rde
      have s4e : StepS [35, 0] ro tag4 σ4 tag7 σe := (st5.s (by decide)).trans (((st6 []).s (by simp)).trans ((st7.s (by decide)).trans ((st8.s (by decide)).trans ((st9.s (by decide)).trans ((sta.s (by decide)).trans ((stb.s (by decide)).trans ((stc.s (by decide)).trans ((std.s (by decide)).trans (ste.s (by decide))))))))))
      have hse := s4e.sep
      have hst' : StepS [11, 35, 0] ro tag σ tag7 σe := hst.trans (s4e.mono (by decide))
      have hUe := hU.keepS s4e (by decide) (by decide)
      have hdl := kd.len
      rw [List.length_map] at hdl
      have hsh : (rnode rd).2.err = 0 → (rnode rd).2.rest.length < rd.rest.length := rnode_shorter
      have hnums := rnode_nums rd
      have hkid : (rnode rd).1.2.kids = 0 := rfl
      obtain ⟨nd, hnd⟩ : ∃ nd, (rnode rd).1 = nd := ⟨_, rfl⟩
      obtain ⟨rd', hrd'⟩ : ∃ rd', (rnode rd).2 = rd' := ⟨_, rfl⟩
      rw [hnd] at re kd hdec hnums hkid hdl
      rw [hrd'] at rde hdec hsh
      obtain ⟨p, n⟩ := nd
      simp only at hdl hnums hkid
      obtain ⟨pp, hpp, hg⟩ := re.ptr hse (by simp [nodeV])
      cases hpp
      have refuse : R0 = none → Q none false σe := fun h => hno (by rw [hdb, h]; rfl) _ tag7 σe hst'
      refine ⟨_, rde.err hse, ?_⟩
      by_cases he : rd'.err = 0
      · rw [if_neg (by simpa using he)]
        rw [if_neg (by simpa using he)] at hdec
        have nolay : lay a last p n = none → R0 = none := fun h => by rw [← hdec]; simp only; rw [h]
        refine ⟨_, hg 1 _ rfl, ?_⟩
        have r30 : (256 < n.data.length ∨ 10000000000 < n.ctr ∨ (n.own ≠ 0 ∧ 0 < n.ctr)) → j30_ref07_Decode B ro X6 X U Q (fun _ => lfpD (l16_ref07_Decode B ro X U Q) ()) true σe := fun hb => by
          unfold j30_ref07_Decode
          rw [if_pos rfl]
          exact refuse (nolay (lay_bad hb))
        have r28 : (256 < n.data.length ∨ 10000000000 < n.ctr ∨ (n.own ≠ 0 ∧ 0 < n.ctr)) → j28_ref07_Decode B ro X6 X U Q (fun _ => lfpD (l16_ref07_Decode B ro X U Q) ()) true σe := fun hb => by
          unfold j28_ref07_Decode
          rw [if_pos rfl]
          exact r30 hb
        -- what is laid
        have accept : ∀ a', lay a last p n = some a' → (∃ a0, a' = a0 ++ [(p, n)] ∧ a0.map Zt.nk = a.map Zt.nk) → j32_ref07_Decode B ro X6 X U Q (fun _ => lfpD (l16_ref07_Decode B ro X U Q) ()) σe := fun a' hly hform => by
          rw [hly] at hdec
          simp only at hdec
          obtain ⟨l1, l2, l3⟩ := laid_step hlaid (by omega) hnums.1 hkid hly
          have hsh := hsh he
          obtain ⟨a0', ea, enk⟩ := hform
          obtain ⟨s, ds, g1, g2, g3, g4⟩ := hUe
          unfold j32_ref07_Decode
          refine ⟨s, Row.cell1 g2 hse, _, _, _, _, _, Row.cellsAt re hse, ?_⟩
          refine app7_ok (r := 11 + 64) g3 hse rfl rfl (by simp [nodeV, storable, Sl.v]) (by rw [List.length_zipWith, g1, Nat.min_self]; omega) fun s' tagf σf stf rf => ?_
          have g2f := g2.keep stf (by decide)
          refine g2f.st (i := 0) stf.sep rfl (by simp) rfl fun σg stg rg => ?_
          have hs7g : StepS [11] ro tag7 σe tagf σg := (stf.s (by decide)).trans (stg.s (by decide))
          have hUg : RefIs tagf σg 11 U (a ++ [(p, n)]) := by
            refine ⟨s', ds ++ [d2], by simp [g1], rg, ?_, fun i p' d hp' hd' => ?_⟩
            · rw [List.zipWith_append g1.symm]
              exact RowW.keep rf stg (by decide)
            · rcases Nat.lt_or_ge i a.length with hi | hi
              · rw [List.getElem?_append_left hi] at hp'
                rw [List.getElem?_append_left (by omega)] at hd'
                exact (g4 i p' d hp' hd').keepS hs7g (by decide)
              · rw [List.getElem?_append_right hi] at hp'
                rw [List.getElem?_append_right (by omega), g1] at hd'
                cases hi' : i - a.length with
                | zero =>
                  rw [hi'] at hp' hd'
                  cases hp'; cases hd'
                  exact kd.keepS hs7g (by decide)
                | succ k => rw [hi'] at hp'; cases hp'
          have hUg' : RefIs tagf σg 11 U a' := hUg.nk (by rw [ea, List.map_append, List.map_append, enk])
          refine ih rd' a' p tagf σg hdec (by omega) he l1 (fun e => ?_) (fun _ => ⟨l2, n, ?_⟩) (by omega) (hst'.trans (hs7g.mono (by decide))) hUg' ((rde.keep stf (by decide)).keep stg (by decide))
          · rw [e] at l3; simp at l3
          · rw [ea]; simp
        have good : ¬ (256 < n.data.length ∨ 10000000000 < n.ctr ∨ (n.own ≠ 0 ∧ 0 < n.ctr)) → j30_ref07_Decode B ro X6 X U Q (fun _ => lfpD (l16_ref07_Decode B ro X U Q) ()) false σe := fun hb => by
          have hU0 := hUe
          obtain ⟨s, ds, g1, g2, g3, g4⟩ := hU0
          have hT := Row.cell1 g2 hse
          have hsl := g3.len
          rw [List.length_zipWith, g1, Nat.min_self] at hsl
          unfold j30_ref07_Decode
          rw [if_neg (by simp)]
          refine ⟨s, hT, ?_⟩
          by_cases ca : a = []
          · rw [if_pos (by rw [hsl, ca]; rfl)]
            have hlast := hnil ca
            subst hlast
            have hly := lay_root (a := a) (p := p) hb
            refine ⟨S p, by have := hg 0 _ rfl; rwa [Nat.zero_mul, add_zero] at this, ?_⟩
            have no : ¬ (p = [47] ∧ n.data = [] ∧ n.ver = 0 ∧ n.own = 0) → Q none false σe := fun h => refuse (nolay (by rw [hly, if_neg h]))
            have n43 : ¬ (p = [47] ∧ n.data = [] ∧ n.ver = 0 ∧ n.own = 0) → j43_ref07_Decode B ro X6 X U Q (fun _ => lfpD (l16_ref07_Decode B ro X U Q) ()) true σe := fun h => by
              unfold j43_ref07_Decode; rw [if_pos rfl]; exact no h
            have n41 : ¬ (p = [47] ∧ n.data = [] ∧ n.ver = 0 ∧ n.own = 0) → j41_ref07_Decode B ro X6 X U Q (fun _ => lfpD (l16_ref07_Decode B ro X U Q) ()) true σe := fun h => by
              unfold j41_ref07_Decode; rw [if_pos rfl]; exact n43 h
            have n39 : ¬ (p = [47] ∧ n.data = [] ∧ n.ver = 0 ∧ n.own = 0) → j39_ref07_Decode B ro X6 X U Q (fun _ => lfpD (l16_ref07_Decode B ro X U Q) ()) true σe := fun h => by
              unfold j39_ref07_Decode; rw [if_pos rfl]; exact n41 h
            by_cases c1 : p = [47]
            · rw [if_neg (by rw [c1]; exact fun h => h rfl)]
              refine ⟨_, hg 1 _ rfl, ?_⟩
              by_cases c2 : n.data = []
              · rw [decide_eq_false (by rw [hdl, c2]; simp)]
                unfold j39_ref07_Decode
                rw [if_neg (by simp)]
                refine ⟨_, hg 2 _ rfl, ?_⟩
                by_cases c3 : n.ver = 0
                · rw [show (!decide (n.ver = 0)) = false by simp [c3]]
                  unfold j41_ref07_Decode
                  rw [if_neg (by simp)]
                  refine ⟨_, hg 4 _ rfl, ?_⟩
                  by_cases c4 : n.own = 0
                  · rw [show (!decide (n.own = 0)) = false by simp [c4]]
                    unfold j43_ref07_Decode
                    rw [if_neg (by simp)]
                    exact accept _ (by rw [hly, if_pos ⟨c1, c2, c3, c4⟩]) ⟨a, rfl, rfl⟩
                  · rw [show (!decide (n.own = 0)) = true by simp [c4]]
                    exact n43 fun h => c4 h.2.2.2
                · rw [show (!decide (n.ver = 0)) = true by simp [c3]]
                  exact n41 fun h => c3 h.2.2.1
              · rw [decide_eq_true (by have := List.length_pos_iff.2 c2; omega)]
                exact n39 fun h => c2 h.2.1
            · rw [if_pos (by rw [show (⟨#[47]⟩ : ByteArray) = S [47] from rfl, S_inj]; exact c1)]
              exact n39 fun h => c1 h.1
          · rw [if_neg (by have := List.length_pos_iff.2 ca; omega)]
            obtain ⟨hlast, nl, hnl⟩ := hcons ca
            refine ⟨S p, by have := hg 0 _ rfl; rwa [Nat.zero_mul, add_zero] at this, ?_⟩
            have n51 : ∀ u, lay a last p n = none → j51_ref07_Decode B ro X6 X U u Q (fun _ => lfpD (l16_ref07_Decode B ro X U Q) ()) true σe := fun u h => by
              unfold j51_ref07_Decode; rw [if_pos rfl]; exact refuse (nolay h)
            refine rparent_ok (fun hp => ?_) fun u hu => ?_
            · rw [if_pos (by simp)]
              rw [L_S] at hp
              exact n51 _ (lay_np hlast hp)
            rw [L_S] at hu
            rw [if_neg (by simp)]
            obtain ⟨s2, b2, d3, e1, e2, e3, e4⟩ := (hUe.m hse).row hnl
            have hal1 := List.length_pos_iff.2 ca
            have ew : IntKind.i64.wrap ((s2.len : Int) - 1) = ((a.length - 1 : Nat) : Int) := by rw [SL.w64_eq (by omega) (by omega)]; omega
            refine ⟨S p, by have := hg 0 _ rfl; rwa [Nat.zero_mul, add_zero] at this, s2, e1, s2, e1, _, e3, by rw [ew]; omega, by rw [ew]; omega, S last, ?_, ?_⟩
            · rw [ew]
              have := e4 0 _ rfl
              rwa [add_zero] at this
            by_cases cle : p ≤ last
            · rw [show (lessS (S p) (S last) || decide (S p = S last)) = true by
                rw [Bool.or_eq_true, decide_eq_true_eq]
                exact (le_iff_lessS _ _).2 (by rw [L_S, L_S]; exact cle)]
              exact n51 _ (lay_le cle)
            rw [show (lessS (S p) (S last) || decide (S p = S last)) = false by
              rw [← Bool.not_eq_true, Bool.or_eq_true, decide_eq_true_eq]
              intro h
              exact cle (by have := (le_iff_lessS _ _).1 h; rwa [L_S, L_S] at this)]
            have hly := lay_up (a := a) hb hlast hu cle
            unfold j51_ref07_Decode
            rw [if_neg (by simp)]
            refine find7_ok (hUe.m hse) hal ?_
            have n54 : lay a last p n = none → j54_ref07_Decode B ro X6 X U Q (fun _ => lfpD (l16_ref07_Decode B ro X U Q) ()) true σe := fun h => by
              unfold j54_ref07_Decode; rw [if_pos rfl]; exact refuse (nolay h)
            rcases fnd_spec (l := a) (k := u) 0 with ⟨f1, f2⟩ | ⟨j, m, f1, f2, f3⟩
            · rw [f2, if_pos (by decide)]
              exact n54 (by rw [hly, f1])
            · rw [f3, if_neg (by omega), Nat.zero_add]
              obtain ⟨s3, b3, d4, q1, q2, q3, q4⟩ := (hUe.m hse).row f1
              have hjl : j < a.length := by
                rcases Nat.lt_or_ge j a.length with h | h
                · exact h
                · rw [List.getElem?_eq_none h] at f1; cases f1
              refine ⟨s3, q1, _, q3, by omega, by omega, m.own, q4 4 _ rfl, ?_⟩
              by_cases co : m.own = 0
              · rw [show (!decide (m.own = 0)) = false by simp [co]]
                unfold j54_ref07_Decode
                rw [if_neg (by simp)]
                refine accept (modN a u more ++ [(p, n)]) (by rw [hly, f2]; simp [co]) ⟨_, rfl, more_nk⟩
              · rw [show (!decide (m.own = 0)) = true by simp [co]]
                exact n54 (by rw [hly, f2]; simp [co])
        by_cases c1 : 256 < n.data.length
        · rw [decide_eq_true (by omega)]
          unfold j26_ref07_Decode
          rw [if_pos rfl]
          exact r28 (.inl c1)
        rw [decide_eq_false (by omega)]
        unfold j26_ref07_Decode
        rw [if_neg (by simp)]
        refine ⟨_, hg 3 _ rfl, ?_⟩
        by_cases c2 : 10000000000 < n.ctr
        · rw [show decide (10000000000 < n.ctr) = true by simpa using c2]
          exact r28 (.inr (.inl c2))
        rw [show decide (10000000000 < n.ctr) = false by simpa using c2]
        unfold j28_ref07_Decode
        rw [if_neg (by simp)]
        refine ⟨_, hg 4 _ rfl, ?_⟩
        by_cases c3 : n.own = 0
        · rw [if_neg (by simpa using c3)]
          unfold j65_ref07_Decode
          exact good (by rintro (h | h | h); exact c1 h; exact c2 h; exact h.1 c3)
        · rw [if_pos (by simpa using c3)]
          refine ⟨_, hg 3 _ rfl, ?_⟩
          unfold j65_ref07_Decode
          have hc0 := hnums.2
          by_cases c4 : n.ctr = 0
          · rw [show (!decide (n.ctr = 0)) = false by simp [c4]]
            exact good (by rintro (h | h | h); exact c1 h; exact c2 h; omega)
          · rw [show (!decide (n.ctr = 0)) = true by simp [c4]]
            exact r30 (.inr (.inr ⟨c3, by omega⟩))
      · rw [if_pos (by simpa using he)]
        rw [if_pos (by simpa using he)] at hdec
        unfold j26_ref07_Decode
        rw [if_pos rfl]
        unfold j28_ref07_Decode
        rw [if_pos rfl]
        unfold j30_ref07_Decode
        rw [if_pos rfl]
        exact refuse hdec.symm
where
  all_congr {α : Type} {l : List α} {f g : α → Bool} (h : ∀ p ∈ l, f p = g p) : l.all f = l.all g := by
    induction l with
    | nil => rfl
    | cons x l ih => rw [List.all_cons, List.all_cons, h x (by simp), ih fun p hp => h p (by simp [hp])]
end Go.Proofs.YthfpmipeejjogaaGreatDoor.Zt

/- ZtreeDecodes, the walk. -/
namespace Go.Proofs.YthfpmipeejjogaaGreatDoor.Zt
open Go Go.Proofs.YthfpmipeejjogaaGreatDoor.SL Go.Proofs.YthfpmipeejjogaaGreatDoor.G Go.Proofs.YthfpmipeejjogaaGreatDoor.Pa Go.Proofs.YthfpmipeejjogaaGreatDoor.Wi
set_option linter.unusedSimpArgs false
set_option linter.unusedVariables false
set_option maxRecDepth 100000
variable {B : World} {ro σ σ' : AH} {tag tag' : Nat → Nat}
theorem decodes_ok {a0 : Sl} {b : Str} (g : Glob ro) (h : SL.Read ro (fun _ => none) a0 (b.map vU)) (hc : a0.len ≤ a0.cap) (hl : b.length ≤ 1048576) : c_law07_ZtreeDecodes B ro a0 σ fun r _ => r = true := by
  refine law07_ZtreeDecodes_ok fun hs => ?_
  unfold f_law07_ZtreeDecodes
  refine copy_ok (tag := fun _ => 0) h.keep hs (by simp; omega) (fun v hv => by obtain ⟨c, _, rfl⟩ := List.mem_map.1 hv; rfl) fun s1 tag1 σ1 st1 r1 => ?_
  refine decode_ok (tag := tag1) (r := 10) g (by decide) (by decide) (by decide) (by decide) (r1.read (st1 []).sep) (by omega) (fun hd tag2 σ2 st2 => ?_) fun st hd T tag2 σ2 st2 hT => ?_
  · refine decode7_ok (tag := tag2) h hc hl (fun _ U tag3 σ3 st3 => ?_) fun st h' => by rw [hd] at h'; cases h'
    rw [if_pos (by simp), if_pos ⟨rfl, rfl⟩]
    refine awake_ok g fun σ4 _ => ?_
    unfold j6_law07_ZtreeDecodes
    rfl
  · refine decode7_ok (tag := tag2) h hc hl (fun h' => by rw [hd] at h'; cases h') fun st' hd' U tag3 σ3 st3 hU => ?_
    rw [hd] at hd'
    obtain rfl := Option.some.inj hd'
    rw [if_neg (by simp), if_pos ⟨by simp, rfl⟩]
    refine nw_cells (tag := tag3) 36 st3.sep fun P tag4 σ4 st4 r4 => ?_
    obtain ⟨h3, hsrt, hln⟩ := dec_inv3 hd (by omega)
    have e : srt st = st := (srt_of hsrt (List.Perm.refl _)).symm
    have hT4 := (hT.keepS st3 (by decide) (by decide)).keepS ((st4 []).s (C := []) (by simp)) (by simp) (by simp)
    have hU4 := hU.keepS ((st4 []).s (C := []) (by simp)) (by simp) (by simp)
    refine alike_ok (ws := []) (ps := [[47]]) g hT4 (by rw [e]; exact hU4) h3 (by omega) ⟨rfl, fun _ => rfl, fun p hp => by cases hp⟩ (by simp) (fun tag' σ' st => (r4.keepS st (by decide)).read st.sep) (by simp) fun tag5 σ5 st5 => ?_
    unfold j9_law07_ZtreeDecodes
    rw [if_pos rfl]
    refine awake_ok g fun σ6 _ => ?_
    unfold j11_law07_ZtreeDecodes
    rfl
end Go.Proofs.YthfpmipeejjogaaGreatDoor.Zt

/- ZtreeShape: the script as it stands in memory. -/
namespace Go.Proofs.YthfpmipeejjogaaGreatDoor.Zt
open Go Go.Proofs.YthfpmipeejjogaaGreatDoor.SL Go.Proofs.YthfpmipeejjogaaGreatDoor.G Go.Proofs.YthfpmipeejjogaaGreatDoor.Pa
set_option linter.unusedSimpArgs false
set_option linter.unusedVariables false

theorem c5 : Tryz.prog.cellsOf 5 = 1 := by kernel_rfl
theorem c3 : Tryz.prog.cellsOf 3 = 1 := by kernel_rfl
theorem c4 : Tryz.prog.cellsOf 4 = 1 := by kernel_rfl
theorem b5 : Tryz.prog.bytesOf 5 = 1 := by kernel_rfl
theorem u4b : Tryz.prog.underlying 4 = some .bool := by kernel_rfl
theorem bytes_of {W : World} {H : Type} {enc : TypeId × Value → H} {a : Option Addr} {len cap : Nat} (h : Arg Tryz.prog W H enc 30 [.slice a len cap]) : ∃ d : Str, d.length ≤ 140737488351232 ∧ SL.Read (all W) (fun _ => none) ⟨a, len, cap⟩ (d.map vU) := by
  rcases h.slice u30 with ⟨rfl, rfl, rfl⟩ | ⟨x, rfl, hl, hb, hel⟩
  · exact ⟨[], by decide, rfl, fun _ => rfl, fun p h => by cases h⟩
  · rw [c5] at hel
    rw [b5, Nat.mul_one] at hb
    have key : ∀ j : Nat, ∃ c : UInt8, j < len → W.cell? (x.add j) = some (vU c) := fun j => by
      by_cases hj : j < len
      · obtain ⟨cs, h1, h2, h3⟩ := hel j hj
        match cs, h1 with
        | [u], _ =>
          obtain ⟨c, rfl⟩ := h3.u8 u5
          have := h2 0 (by omega)
          rw [Nat.mul_one, add_zero] at this
          exact ⟨c, fun _ => this⟩
      · exact ⟨0, fun h => absurd h hj⟩
    obtain ⟨f, hf⟩ := Classical.axiomOfChoice key
    refine ⟨(List.range len).map f, by simp [reachBytes] at hb ⊢; omega, by simp, (fun h => by cases h), fun p hp i v hv => ?_⟩
    cases hp
    have hi : i < len := by
      rcases Nat.lt_or_ge i len with h | h
      · exact h
      · rw [List.getElem?_eq_none (by simpa using h)] at hv; cases hv
    rw [List.getElem?_map, List.getElem?_map, List.getElem?_range hi] at hv
    cases hv
    exact all_cell _ (hf i hi)

end Go.Proofs.YthfpmipeejjogaaGreatDoor.Zt
