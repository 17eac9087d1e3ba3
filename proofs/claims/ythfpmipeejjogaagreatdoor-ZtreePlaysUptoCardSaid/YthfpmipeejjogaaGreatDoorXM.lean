/- R7A, Mem5, DelF, MuC, MuD, MuE, MuF, MuG, MuH, MuE84, MuI, R7B, R7C, R7D, R7E, R7F, R7G, R7H, R7I, R7J, R7K, R7L -/
import Derived.Test.YthfpmipeejjogaaGreatDoorXL
/- The document's tree in memory: finding a node, counting what is below it. -/
namespace Go.Proofs.YthfpmipeejjogaaGreatDoor.Zt
open Go Go.Proofs.YthfpmipeejjogaaGreatDoor.SL Go.Proofs.YthfpmipeejjogaaGreatDoor.G Go.Proofs.YthfpmipeejjogaaGreatDoor.Pa
set_option linter.unusedSimpArgs false
set_option linter.unusedVariables false
variable {B : World} {ro σ σ' : AH} {tag tag' : Nat → Nat}

/-- a node of the document's tree, its cells -/
def nodeV (p : Str × Nd) (d : Sl) : List Value := [.string (S p.1), Sl.v d, .int .i64 p.2.ver, .int .i64 p.2.ctr, .int .i64 p.2.own]
/-- the document's tree, to be read -/
def RefM (ro σ : AH) (T : Nat) (l : St) : Prop := ∃ s : Sl, acell ro σ ⟨T, 0, none⟩ = some (Sl.v s) ∧ s.len = l.length ∧
  ∀ (j : Nat) (p : Str × Nd), l[j]? = some p → ∃ b d, s.a = some ⟨b, 0, none⟩ ∧ (∀ (i : Nat) (v : Value), (nodeV p d)[i]? = some v → acell ro σ ⟨b, j * 5 + i, none⟩ = some v) ∧ SL.Read ro σ d (p.2.data.map vU)
/-- the place of a path, or -1 -/
def fnd : St → Str → Nat → Int
  | [], _, _ => -1
  | p :: r, k, i => if p.1 = k then (i : Int) else fnd r k (i + 1)
theorem find7_ok {T : Nat} {l : St} {k : Str} {Q : Int → AH → Prop} (h : RefM ro σ T l) (hl : l.length ≤ 4294967296) (hQ : Q (fnd l k 0) σ) : c_ref07_Tree_Find B ro (some ⟨T, 0, none⟩) (S k) σ Q := by
  refine ref07_Tree_Find_ok fun hs => ?_
  unfold f_ref07_Tree_Find
  obtain ⟨s, hT, hsl, hrow⟩ := h
  suffices ∀ m j, j + m = l.length → Q (fnd (l.drop j) k j) σ → lfpD (l2_ref07_Tree_Find B ro (some ⟨T, 0, none⟩) (S k) Q) (j : Int) σ from this _ 0 (Nat.zero_add _) hQ
  intro m
  induction m with
  | zero =>
    intro j hj hq
    refine lfpD.intro ?_
    unfold l2_ref07_Tree_Find
    refine ⟨_, rfl, s, hT, ?_⟩
    rw [if_neg (by omega)]
    unfold j1_ref07_Tree_Find
    rw [List.drop_of_length_le (by omega)] at hq
    exact hq
  | succ m ih =>
    intro j hj hq
    have hjl : j < l.length := by omega
    rw [List.drop_eq_getElem_cons hjl] at hq
    obtain ⟨b, d, ha, hc, hd⟩ := hrow j l[j] (List.getElem?_eq_getElem hjl)
    refine lfpD.intro ?_
    unfold l2_ref07_Tree_Find
    refine ⟨_, rfl, s, hT, ?_⟩
    rw [if_pos (by omega)]
    refine ⟨_, rfl, s, hT, _, ha, by omega, by omega, S l[j].1, ?_, ?_⟩
    · have := hc 0 _ rfl
      rw [Int.toNat_natCast, add_add, Nat.zero_add]; exact this
    unfold fnd at hq
    by_cases c : l[j].1 = k
    · rw [if_pos (by rw [S_inj]; exact c)]
      rw [if_pos c] at hq; exact hq
    · rw [if_neg (by rw [S_inj]; exact c), Pa.inc j (by omega)]
      rw [if_neg c] at hq
      exact ih (j + 1) (by omega) hq
theorem kc_snoc (a : List Str) (q u : Str) : kc (a ++ [q]) u = kc a u + if parent q = some u then 1 else 0 := by
  unfold kc; simp [List.countP_append, List.countP_cons]
theorem below7_ok {T : Nat} {l : St} {k : Str} {Q : Int → AH → Prop} (h : RefM ro σ T l) (hl : l.length ≤ 4294967296) (hQ : Q ((kc (l.map (·.1)) k : Nat) : Int) σ) : c_ref07_Tree_below B ro (some ⟨T, 0, none⟩) (S k) σ Q := by
  refine ref07_Tree_below_ok fun hs => ?_
  unfold f_ref07_Tree_below
  obtain ⟨s, hT, hsl, hrow⟩ := h
  suffices ∀ m j, j + m = l.length → lfpD (l3_ref07_Tree_below B ro (some ⟨T, 0, none⟩) (S k) Q) ((((kc ((l.take j).map (·.1)) k : Nat) : Int)), (j : Int)) σ from this _ 0 (Nat.zero_add _)
  intro m
  induction m with
  | zero =>
    intro j hj
    refine lfpD.intro ?_
    unfold l3_ref07_Tree_below
    simp only
    refine ⟨_, rfl, s, hT, ?_⟩
    rw [if_neg (by omega)]
    unfold j1_ref07_Tree_below
    rw [List.take_of_length_le (by omega)]
    exact hQ
  | succ m ih =>
    intro j hj
    have hjl : j < l.length := by omega
    obtain ⟨b, d, ha, hc, hd⟩ := hrow j l[j] (List.getElem?_eq_getElem hjl)
    have hkc : kc ((l.take j).map (·.1)) k ≤ j := by
      unfold kc
      refine Nat.le_trans List.countP_le_length ?_
      rw [List.length_map, List.length_take]; omega
    have etk : (l.take (j + 1)).map (·.1) = (l.take j).map (·.1) ++ [l[j].1] := by
      rw [List.take_add_one, List.getElem?_eq_getElem hjl, List.map_append]; rfl
    refine lfpD.intro ?_
    unfold l3_ref07_Tree_below
    simp only
    refine ⟨_, rfl, s, hT, ?_⟩
    rw [if_pos (by omega)]
    refine ⟨_, rfl, s, hT, _, ha, by omega, by omega, S l[j].1, ?_, ?_⟩
    · have := hc 0 _ rfl
      rw [Int.toNat_natCast, add_add, Nat.zero_add]; exact this
    have next : ∀ c : Int, c = ((kc ((l.take (j + 1)).map (·.1)) k : Nat) : Int) → j8_ref07_Tree_below B ro (some ⟨T, 0, none⟩) (S k) (j : Int) Q (lfpD (l3_ref07_Tree_below B ro (some ⟨T, 0, none⟩) (S k) Q)) c σ := fun c hcc => by
      unfold j8_ref07_Tree_below
      rw [Pa.inc j (by omega), hcc]
      exact ih (j + 1) (by omega)
    refine rparent_ok (fun hn => ?_) fun u hu => ?_
    · rw [if_neg (by simp)]
      rw [L_S] at hn
      exact next _ (by rw [etk, kc_snoc, hn]; simp)
    · rw [L_S] at hu
      by_cases c : u = k
      · rw [if_pos ⟨rfl, by rw [c]⟩]
        exact next _ (by rw [etk, kc_snoc, hu, c, if_pos rfl, Pa.inc _ (by omega)])
      · rw [if_neg (by rw [S_inj]; exact fun h => c h.2)]
        exact next _ (by rw [etk, kc_snoc, hu, if_neg (by simpa using c)]; simp)
theorem bad7_ok {k : Str} {Q : Bool → AH → Prop} (hQ : Q (decide (parent k = none)) σ) : c_ref07_bad B ro (S k) σ Q := by
  refine ref07_bad_ok fun hs => ?_
  unfold f_ref07_bad
  refine rparent_ok (fun hn => ?_) fun u hu => ?_
  · rw [L_S] at hn; rw [hn] at hQ; simpa using hQ
  · rw [L_S] at hu; rw [hu] at hQ; simpa using hQ
end Go.Proofs.YthfpmipeejjogaaGreatDoor.Zt

/- Builtin clear of the end of a row. Generic over any program. -/
namespace Go.Proofs.YthfpmipeejjogaaGreatDoor.SL
open Go
set_option linter.unusedVariables false
set_option linter.unusedSimpArgs false
variable {P : Program} {B : World} {ro σ σ' : AH} {tag tag' : Nat → Nat}

theorem zeroCells_list (zv : Value) (n : Nat) : (Builtin.zeroCells #[zv] n).toList = List.replicate n zv := by
  apply List.ext_getElem?
  intro i
  simp only [Builtin.zeroCells, Array.getElem?_toList, Array.getElem?_map, Array.size, List.length_cons, List.length_nil, Nat.mul_one]
  rcases Nat.lt_or_ge i n with h | h
  · rw [List.getElem?_replicate, if_pos h]
    simp [h, Nat.mod_one]
  · rw [List.getElem?_replicate, if_neg (by omega)]
    simp; omega
theorem awp_clearTail {r e t ty : TypeId} {s : Sl} {l : List Value} {m bytes : Nat} {zv : Value} {Q : Value → AH → Prop} (h : Row tag σ r e s l) (hs : Sep ro σ) (ht : P.underlying t = some (.slice e)) (hz : TyIs P e zv 1 bytes) (hzc : zv.cells = #[zv]) (hv : storable zv = true)
    (hm : m ≤ l.length) (hQ : ∀ σ', Step [r] ro tag σ tag σ' → Row tag σ' r e ⟨s.a, m, s.cap⟩ (l.take m) → Q (.tuple #[]) σ') :
    awp P ro (Builtin.clear_ #[t] ty #[Sl.v (⟨cutA s.a m s.cap 1, s.len - m, s.cap - m⟩ : Sl)]) Q σ := by
  have g0 : (#[t] : Array TypeId)[0]? = some t := rfl
  have g1 : (#[Value.slice (cutA s.a m s.cap 1) (s.len - m) (s.cap - m)] : Array Value)[0]? = some (Value.slice (cutA s.a m s.cap 1) (s.len - m) (s.cap - m)) := rfl
  have hl := h.len
  unfold Builtin.clear_
  simp only [Sl.v, bind_def, pure_def, g0, g1]
  rw [awp_underlying ht]
  have done : Q (.tuple #[]) σ ∨ 0 < s.len - m := by
    rcases Nat.eq_zero_or_pos (s.len - m) with h0 | h0
    · refine .inl (hQ σ (Step.refl hs) ?_)
      exact h.take hm
    · exact .inr h0
  rcases Nat.eq_zero_or_pos (s.len - m) with h0 | h0
  · have hd := done.resolve_right (by omega)
    rw [h0]
    cases hc : cutA s.a m s.cap 1 with
    | none => exact hd
    | some a => exact hd
  · rcases h with ⟨rfl, rfl⟩ | ⟨b, cs, ha, htg, hbk, hln, hcp, hle, hg⟩
    · simp at h0
    · have hcut : cutA s.a m s.cap 1 = some ⟨b, m, none⟩ := by
        unfold cutA
        rw [if_neg (by omega), ha]
        simp [add_add]
      rw [hcut]
      obtain ⟨k, hk⟩ : ∃ k, s.len - m = k + 1 := ⟨s.len - m - 1, by omega⟩
      rw [hk]
      simp only
      rw [awp_zero hz, hzc, zeroCells_list]
      refine (awp_bind _ _).2 ?_
      refine awp_storeCells (List.replicate (k + 1) zv) 0 σ (stN_blk (List.replicate (k + 1) zv) cs 0 σ hbk (by simp; omega) (fun v hvm => by rw [(List.mem_replicate.1 hvm).2]; exact hv) fun cs' c1 c2 c3 => ?_)
      refine hQ _ (step_obj hs htg hbk) ?_
      refine .inr ⟨b, cs', ha, htg, upd_same _ _ _, by simp; omega, by rw [c1]; exact hcp, by simp; omega, fun i hi => ?_⟩
      simp at hi
      rw [c2 i (by omega), List.getElem?_take, if_pos (by omega)]
      exact hg i (by omega)
end Go.Proofs.YthfpmipeejjogaaGreatDoor.SL

/- slices.IndexFunc and slices.DeleteFunc over texts; the paths under a path. -/
namespace Go.Proofs.YthfpmipeejjogaaGreatDoor.Zt
open Go Go.Proofs.YthfpmipeejjogaaGreatDoor.SL Go.Proofs.YthfpmipeejjogaaGreatDoor.G Go.Proofs.YthfpmipeejjogaaGreatDoor.Pa
set_option linter.unusedSimpArgs false
set_option linter.unusedVariables false
variable {B : World} {ro σ σ' : AH} {tag tag' : Nat → Nat}
theorem t25' : Tryz.prog.underlying 25 = some (.slice 9) := by kernel_rfl
theorem ty9' : TyIs Tryz.prog 9 (.string ByteArray.empty) 1 16 := TyIs.of (by kernel_rfl)

set_option maxRecDepth 100000 in
theorem delFunc_ok {q : Nat} {s : Sl} {l : List Str} {f : Str → Bool} {fv : Value} {Q : Sl → AH → Prop} (h : Row tag σ q 9 s (l.map Pa.vS)) (hs : SL.Sep ro σ) (hl : l.length < 4611686018427387904)
    (hcall : ∀ k ∈ l, ∀ σ', Step [q] ro tag σ tag σ' → ∀ K : Value → AH → Prop, K (.bool (f k)) σ' → callV Tryz.prog B ro fv [.string (S k)] σ' K)
    (hQ : ∀ s' σ', Step [q] ro tag σ tag σ' → Row tag σ' q 9 s' ((l.filter fun k => !f k).map Pa.vS) → Q s' σ') : c_slices_DeleteFunc_string_string B ro s fv σ Q := by
  refine slices_DeleteFunc_string_string_ok fun _ => ?_
  unfold f_slices_DeleteFunc_string_string
  refine slices_IndexFunc_string_string_ok fun _ => ?_
  unfold f_slices_IndexFunc_string_string
  have hln : s.len = l.length := by rw [h.len, List.length_map]
  -- the second loop
  have second : ∀ (m j w : Nat) (cur : List Str) (σ1 : AH), j + m = l.length → w ≤ j → cur.length = l.length → cur.take w = (l.take j).filter (fun k => !f k) → (∀ i, j ≤ i → cur[i]? = l[i]?) → Step [q] ro tag σ tag σ1 → Row tag σ1 q 9 s (cur.map Pa.vS) →
      lfpD (l4_slices_DeleteFunc_string_string B ro s fv Q) ((w : Int), (j : Int)) σ1 := by
    intro m
    induction m with
    | zero =>
      intro j w cur σ1 hj hw hcl htk hrest st1 r1
      refine lfpD.intro ?_
      unfold l4_slices_DeleteFunc_string_string
      simp only
      rw [if_neg (by omega)]
      unfold j2_slices_DeleteFunc_string_string
      have hcap := r1.capAt
      rw [List.length_map] at hcap
      refine ⟨⟨trivial, by omega, by simp only [cutHi]; omega⟩, ?_⟩
      rw [Int.toNat_natCast]
      refine awp_clearTail r1 st1.sep t25' ty9' rfl rfl (by simp; omega) fun σ2 st2 r2 => ?_
      refine ⟨rfl, ⟨⟨by omega, by omega⟩, trivial⟩, ?_⟩
      rw [cutA_zero, Nat.sub_zero, Nat.sub_zero]
      refine hQ _ σ2 (st1.trans st2) ?_
      rw [← List.map_take, htk, List.take_of_length_le (by omega)] at r2
      exact r2
    | succ m ih =>
      intro j w cur σ1 hj hw hcl htk hrest st1 r1
      have hjl : j < l.length := by omega
      have hjc : j < cur.length := by omega
      have hcj : cur[j] = l[j] := by
        have := hrest j (Nat.le_refl _)
        rw [List.getElem?_eq_getElem hjc, List.getElem?_eq_getElem hjl] at this
        exact Option.some.inj this
      obtain ⟨p, hp, _, hget⟩ := Row.sget r1 st1.sep hjc
      refine lfpD.intro ?_
      unfold l4_slices_DeleteFunc_string_string
      simp only
      rw [if_pos (by omega)]
      refine ⟨p, hp, by omega, by omega, S cur[j], by rw [Int.toNat_natCast]; exact hget j hjc, ?_⟩
      rw [hcj]
      refine hcall _ (List.getElem_mem hjl) σ1 st1 _ ⟨f l[j], rfl, ?_⟩
      have etk : (l.take (j + 1)).filter (fun k => !f k) = (l.take j).filter (fun k => !f k) ++ if f l[j] then [] else [l[j]] := by
        rw [List.take_add_one, List.getElem?_eq_getElem hjl, List.filter_append]
        simp only [Option.toList_some, List.filter_cons, List.filter_nil]
        cases f l[j] <;> rfl
      cases hf : f l[j] with
      | true =>
        rw [if_neg (by simp)]
        unfold j7_slices_DeleteFunc_string_string
        rw [Pa.inc j (by omega)]
        exact ih (j + 1) w cur σ1 (by omega) (by omega) hcl (by rw [etk, hf]; simpa using htk) (fun i hi => hrest i (by omega)) st1 r1
      | false =>
        rw [if_pos (by simp)]
        refine ⟨p, hp, by omega, by omega, ?_⟩
        rw [Int.toNat_natCast]
        refine r1.st (i := w) st1.sep hp (by simp; omega) rfl fun σ2 st2 r2 => ?_
        unfold j7_slices_DeleteFunc_string_string
        rw [Pa.inc j (by omega), Pa.inc w (by omega)]
        refine ih (j + 1) (w + 1) (cur.set w l[j]) σ2 (by omega) (by omega) (by simpa using hcl) ?_ (fun i hi => ?_) (st1.trans st2) (by rw [List.map_set]; exact r2)
        · rw [etk, hf, List.take_add_one, List.take_set_of_le (Nat.le_refl _), htk, List.getElem?_set_self (by omega)]
          rfl
        · rw [List.getElem?_set_ne (by omega)]; exact hrest i (by omega)
  suffices ∀ m j, j + m = l.length → (∀ k ∈ l.take j, f k = false) → lfpD (l2_slices_IndexFunc_string_string B ro s fv fun x10 σ => if x10 = (-1) then Q s σ else lfpD (l4_slices_DeleteFunc_string_string B ro s fv Q) (x10, IntKind.i64.wrap (x10 + 1)) σ) (j : Int) σ from
    this _ 0 (Nat.zero_add _) (by simp)
  intro m
  induction m with
  | zero =>
    intro j hj hall
    refine lfpD.intro ?_
    unfold l2_slices_IndexFunc_string_string
    rw [if_neg (by omega)]
    unfold j1_slices_IndexFunc_string_string
    show (if (-1 : Int) = -1 then _ else _)
    rw [if_pos rfl]
    rw [List.take_of_length_le (by omega)] at hall
    refine hQ s σ (Step.refl hs) ?_
    rw [List.filter_eq_self.2 fun k hk => by rw [hall k hk]; rfl]
    exact h
  | succ m ih =>
    intro j hj hall
    have hjl : j < l.length := by omega
    obtain ⟨p, hpp, _, hget⟩ := Row.sget h hs hjl
    refine lfpD.intro ?_
    unfold l2_slices_IndexFunc_string_string
    rw [if_pos (by omega)]
    refine ⟨p, hpp, by omega, by omega, _, hget j hjl, ?_⟩
    refine hcall _ (List.getElem_mem hjl) σ (Step.refl hs) _ ⟨f l[j], rfl, ?_⟩
    cases hf : f l[j] with
    | true =>
      rw [if_pos rfl]
      show (if ((j : Int)) = -1 then _ else _)
      rw [if_neg (by omega), Pa.inc j (by omega)]
      have e1 : (l.take j).filter (fun k => !f k) = l.take j := List.filter_eq_self.2 fun k hk => by rw [hall k hk]; rfl
      refine second m (j + 1) j l σ (by omega) (by omega) rfl ?_ (fun _ _ => rfl) (Step.refl hs) h
      rw [List.take_add_one, List.getElem?_eq_getElem hjl, List.filter_append, e1]
      simp [hf]
    | false =>
      rw [if_neg (by decide), Pa.inc j (by omega)]
      refine ih (j + 1) (by omega) fun k hk => ?_
      rw [List.take_add_one, List.getElem?_eq_getElem hjl] at hk
      rcases List.mem_append.1 hk with h | h
      · exact hall k h
      · have h' : k = l[j] := by simpa using h
        rw [h']; exact hf

/-- does a path stand under this one? -/
def isUnder (u k : Str) : Bool := match under u k with
  | some b => b
  | none => false
set_option maxRecDepth 100000 in
theorem pathsAny_ok {r T M q : Nat} {bs : List Nat} {st : St} {u : ByteArray} {Q : Sl → Int → AH → Prop} (g : Glob ro) (hr : r < 64) (hr0 : r ≠ 0) (hq0 : q ≠ 0) (h : TreeAt tag σ r T M bs st) (hl : ∀ p ∈ st, ∃ ps, parts p.1 = some ps) (hn : st.length ≤ 4398046511104)
    (hbad : parts (L u) = none → ∀ tag' σ', (∀ R, Step R ro tag σ tag' σ') → Q ⟨none, 0, 0⟩ 20 σ')
    (hQ : ∀ ps, parts (L u) = some ps → ∀ (s : Sl) (tag' : Nat → Nat) (σ' : AH) (ks : List Str), Step [q] ro tag σ tag' σ' → ks.Perm (st.map (·.1)) → ks.Pairwise (· ≤ ·) → Row tag' σ' q 9 s ((ks.filter fun k => isUnder (L u) k).map Pa.vS) → Q s 0 σ') : c_ztree_Tree_Paths B ro (some ⟨T, 0, none⟩) u σ Q := by
  refine ztree_Tree_Paths_ok fun hs => ?_
  unfold f_ztree_Tree_Paths
  refine nw_cells (tag := tag) 0 hs fun x tag1 σ1 st1 r1 => ?_
  have hA := h.keep (st1 []) (by simp)
  refine ⟨_, Row.cell1 r1 (st1 []).sep, ?_⟩
  refine check_ok g ?_
  by_cases hc : Pa.chk (L u) = 0
  · rw [if_neg (by simpa using hc)]
    obtain ⟨ps, hps⟩ := chk_zero.1 hc
    have h128 : ∀ p ∈ st, p.1.length ≤ 128 := fun p hp => by
      obtain ⟨ps, e⟩ := hl p hp
      obtain ⟨e1, e2⟩ := parts_iff.1 e
      rw [e1]; exact e2.len
    refine paths_ok (q := q) hA h128 hn fun s tag2 σ2 ks st2 hp hsrt hr2 => ?_
    have hkl : ks.length = st.length := by rw [hp.length_eq, List.length_map]
    have r12 := r1.keep (st2 []) (by simp)
    refine delFunc_ok (f := fun k => !isUnder (L u) k) hr2 (st2 []).sep (by omega) (fun k hk σ3 st3 K hK => ?_) fun s' σ3 st3 r3 => ?_
    · have hx := Row.cell1 (r12.keep st3 (by simpa using fun e => hq0 e.symm)) st3.sep
      refine call58 ?_
      refine ztree_Tree_Paths_c1_ok fun _ => ?_
      unfold f_ztree_Tree_Paths_c1
      refine ⟨_, hx, ?_⟩
      obtain ⟨y, hy, e⟩ := List.mem_map.1 (hp.mem_iff.1 hk)
      obtain ⟨qs, hqs⟩ := hl y hy
      rw [e] at hqs
      have hu : ∃ b, under (L u) (L (S k)) = some b := by
        unfold under
        rw [hps, L_S, hqs]
        exact ⟨_, rfl⟩
      obtain ⟨b, hb⟩ := hu
      refine under_ok g (fun hnone => by rw [hb] at hnone; cases hnone) (fun b' hb' => ?_)
      rw [L_S] at hb'
      unfold isUnder at hK
      rw [hb'] at hK
      exact hK
    · refine hQ ps hps s' tag2 σ3 ks ((st1 _).trans ((st2 _).trans st3)) hp hsrt ?_
      simpa using r3
  · rw [if_pos (by simpa using hc)]
    have e : parts (L u) = none := by
      cases h : parts (L u) with
      | none => rfl
      | some ps => exact absurd (chk_zero.2 ⟨ps, h⟩) hc
    have : Pa.chk (L u) = 20 := by unfold Pa.chk; rw [e]; rfl
    rw [this]
    exact hbad e tag1 σ1 st1
end Go.Proofs.YthfpmipeejjogaaGreatDoor.Zt

/- One change of several, the pure part. -/
namespace Go.Proofs.YthfpmipeejjogaaGreatDoor.Zt
open Go Go.Proofs.YthfpmipeejjogaaGreatDoor.SL Go.Proofs.YthfpmipeejjogaaGreatDoor.Pa
set_option linter.unusedSimpArgs false
set_option linter.unusedVariables false

structure MOp where
  kind : Int
  path : Str
  data : Str
  ver : Int
  eph : Bool
  seq : Bool
end Go.Proofs.YthfpmipeejjogaaGreatDoor.Zt

/- One change of several, the walk: within, do. -/
namespace Go.Proofs.YthfpmipeejjogaaGreatDoor.Zt
open Go Go.Proofs.YthfpmipeejjogaaGreatDoor.SL Go.Proofs.YthfpmipeejjogaaGreatDoor.G Go.Proofs.YthfpmipeejjogaaGreatDoor.Pa
set_option linter.unusedSimpArgs false
set_option linter.unusedVariables false
variable {B : World} {ro σ σ' : AH} {tag tag' : Nat → Nat}

theorem RowW.keepS {C : List Nat} {r : Nat} {e : TypeId} {w : Nat} {s : Sl} {l : List (List Value)} (h : RowW tag σ r e w s l) (k : StepS C ro tag σ tag' σ') (hr : r % 64 ∉ C) : RowW tag' σ' r e w s l := by
  obtain ⟨R, h1, h2⟩ := k
  exact h.keep h2 fun m => hr (h1 _ m)
theorem Row.cellsAt {r : Nat} {e : TypeId} {b n c : Nat} {l : List Value} (h : Row tag σ r e ⟨some ⟨b, 0, none⟩, n, c⟩ l) (hs : SL.Sep ro σ) : SL.cellsAt ro σ ⟨b, 0, none⟩ 0 l := by
  rcases Nat.eq_zero_or_pos l.length with h0 | h0
  · rw [List.eq_nil_of_length_eq_zero h0]; trivial
  · obtain ⟨p, hp, hg⟩ := h.ptr hs h0
    cases hp
    exact cellsAt_of 0 fun i v hv => by rw [Nat.zero_add]; have := hg i v hv; rwa [Nat.mul_one] at this
theorem Row.readW1 {r w : Nat} {e : TypeId} {b n c : Nat} {l : List Value} (h : Row tag σ r e ⟨some ⟨b, 0, none⟩, n, c⟩ l) (hs : SL.Sep ro σ) (hw : l.length = w) (h0 : 0 < w) : SL.ReadW ro σ w ⟨some ⟨b, 0, none⟩, 1, 1⟩ [l] := by
  obtain ⟨p, hp, hg⟩ := h.ptr hs (by omega)
  cases hp
  refine ⟨rfl, (fun h => by cases h), fun x hx => by rw [List.mem_singleton.1 hx]; exact hw, fun p hp i v hv => ?_⟩
  cases hp
  have := hg i v (by simpa using hv)
  rwa [Nat.mul_one] at this

/-- what is being done, in memory -/
def resV (r : Str × Int) : List Value := [Pa.vS r.1, vI r.2]
def effV (e : Int × Str) : List Value := [vI e.1, Pa.vS e.2]
structure WorkAt (tag : Nat → Nat) (σ : AH) (W T : Nat) (home : Str) (owner qn qb : Int) (res : List (Str × Int)) (eff : List (Int × Str)) : Prop where
  mem : ∃ rs es : Sl, Row tag σ 13 173 ⟨some ⟨W, 0, none⟩, 8, 8⟩ [Sl.v rs, Sl.v es, vI 0, ptr T, Pa.vS home, vI owner, vI qn, vI qb] ∧ RowW tag σ 14 84 2 rs (res.map resV) ∧ RowW tag σ 15 108 2 es (eff.map effV)
theorem WorkAt.keepS {C : List Nat} {W T : Nat} {home : Str} {owner qn qb : Int} {res : List (Str × Int)} {eff : List (Int × Str)} (h : WorkAt tag σ W T home owner qn qb res eff) (k : StepS C ro tag σ tag' σ') (h3 : 13 ∉ C) (h4 : 14 ∉ C) (h5 : 15 ∉ C) : WorkAt tag' σ' W T home owner qn qb res eff := by
  obtain ⟨rs, es, a, b, c⟩ := h.mem
  exact ⟨rs, es, a.keepS k h3, RowW.keepS b k h4, RowW.keepS c k h5⟩
end Go.Proofs.YthfpmipeejjogaaGreatDoor.Zt

/- Several changes as one: the pure part, and the roles of a copy that takes the place of a tree. -/
namespace Go.Proofs.YthfpmipeejjogaaGreatDoor.Zt
open Go Go.Proofs.YthfpmipeejjogaaGreatDoor.SL Go.Proofs.YthfpmipeejjogaaGreatDoor.G Go.Proofs.YthfpmipeejjogaaGreatDoor.Pa
set_option linter.unusedSimpArgs false
set_option linter.unusedVariables false
variable {B : World} {ro σ σ' : AH} {tag tag' : Nat → Nat}

/-! other roles for the same blocks -/
theorem Row.retag {tg : Nat → Nat} {r r' : Nat} {e : TypeId} {s : Sl} {l : List Value} (h : Row tag σ r e s l) (hr : ∀ c, tag c = r → σ c ≠ none → tg c = r') : Row tg σ r' e s l := by
  rcases h with h | ⟨b, cs, ha, ht, hb, hx⟩
  · exact .inl h
  · exact .inr ⟨b, cs, ha, hr b ht (by rw [hb]; simp), hb, hx⟩
theorem RowW.retag {tg : Nat → Nat} {r r' : Nat} {e : TypeId} {w : Nat} {s : Sl} {l : List (List Value)} (h : RowW tag σ r e w s l) (hr : ∀ c, tag c = r → σ c ≠ none → tg c = r') : RowW tg σ r' e w s l := by
  rcases h with h | ⟨b, cs, ha, ht, hb, hx⟩
  · exact .inl h
  · exact .inr ⟨b, cs, ha, hr b ht (by rw [hb]; simp), hb, hx⟩
theorem MapIs.retag {tg : Nat → Nat} {r r' b : Nat} {m : KV} (h : MapIs tag σ r b m) (hr : ∀ c, tag c = r → σ c ≠ none → tg c = r') : MapIs tg σ r' b m := by
  obtain ⟨es, k, hb, hx⟩ := h.obj
  exact ⟨hr b h.tg (by rw [hb]; simp), es, k, hb, hx⟩
theorem TreeIs.retag {tg : Nat → Nat} {r T : Nat} {st : St} (h : TreeIs tag σ r T st) (hr : ∀ c, tag c % 64 = r % 64 ∨ tag c = 6 → σ c ≠ none → tg c = tag c) : TreeIs tg σ r T st := by
  obtain ⟨M, bs, h⟩ := h
  refine ⟨M, bs, h.keys, h.len, h.nd, Row.retag h.cell fun c hc hn => ?_, MapIs.retag h.map fun c hc hn => ?_, fun i b p hb hp => ?_⟩
  · rw [hr c (.inl (by rw [hc])) hn, hc]
  · rw [hr c (.inl (by rw [hc]; omega)) hn, hc]
  · obtain ⟨s, h1, h2⟩ := h.nodes i b p hb hp
    exact ⟨s, Row.retag h1 fun c hc hn => by rw [hr c (.inl (by rw [hc]; omega)) hn, hc], Row.retag h2 fun c hc hn => by rw [hr c (.inr hc) hn, hc]⟩
end Go.Proofs.YthfpmipeejjogaaGreatDoor.Zt

/- Several changes as one, the walk: Apply. -/
namespace Go.Proofs.YthfpmipeejjogaaGreatDoor.Zt
open Go Go.Proofs.YthfpmipeejjogaaGreatDoor.SL Go.Proofs.YthfpmipeejjogaaGreatDoor.G Go.Proofs.YthfpmipeejjogaaGreatDoor.Pa
set_option linter.unusedSimpArgs false
set_option linter.unusedVariables false
variable {B : World} {ro σ σ' : AH} {tag tag' : Nat → Nat}

def opV (o : MOp) (d : Sl) : List Value := [vI o.kind, Pa.vS o.path, Sl.v d, vI o.ver, .bool o.eph, .bool o.seq]
/-- ops in memory: a row of the role q, the bytes of each in rows of data -/
def OpsAt (tag : Nat → Nat) (σ : AH) (q : Nat) (s : Sl) (ops : List MOp) : Prop :=
  ∃ ds : List Sl, ds.length = ops.length ∧ RowW tag σ q 82 6 s (List.zipWith opV ops ds) ∧ ∀ (i : Nat) (o : MOp) (d : Sl), ops[i]? = some o → ds[i]? = some d → Row tag σ 6 5 d (o.data.map vU)
theorem OpsAt.keepS {C : List Nat} {q : Nat} {s : Sl} {ops : List MOp} (h : OpsAt tag σ q s ops) (k : StepS C ro tag σ tag' σ') (hq : q % 64 ∉ C) (h6 : 6 ∉ C) : OpsAt tag' σ' q s ops := by
  obtain ⟨ds, h1, h2, h3⟩ := h
  exact ⟨ds, h1, RowW.keepS h2 k hq, fun i o d ho hd => (h3 i o d ho hd).keepS k h6⟩
theorem OpsAt.len {q : Nat} {s : Sl} {ops : List MOp} (h : OpsAt tag σ q s ops) : s.len = ops.length := by
  obtain ⟨ds, h1, h2, h3⟩ := h
  rw [h2.len, List.length_zipWith, h1, Nat.min_self]
theorem OpsAt.retag {tg : Nat → Nat} {q : Nat} {s : Sl} {ops : List MOp} (h : OpsAt tag σ q s ops) (hr : ∀ c, tag c = q ∨ tag c = 6 → σ c ≠ none → tg c = tag c) : OpsAt tg σ q s ops := by
  obtain ⟨ds, h1, h2, h3⟩ := h
  exact ⟨ds, h1, RowW.retag h2 fun c hc hn => by rw [hr c (.inl hc) hn, hc], fun i o d ho hd => Row.retag (h3 i o d ho hd) fun c hc hn => by rw [hr c (.inr hc) hn, hc]⟩
theorem stA_cells {r : Nat} {e : TypeId} {b n c : Nat} {l vs : List Value} {K : AH → Prop} (h : Row tag σ r e ⟨some ⟨b, 0, none⟩, n, c⟩ l) (hs : SL.Sep ro σ) (hl : vs.length = l.length) (hv : ∀ v ∈ vs, storable v = true)
    (hK : ∀ σ', Step [r] ro tag σ tag σ' → Row tag σ' r e ⟨some ⟨b, 0, none⟩, n, c⟩ vs → SL.cellsAt ro σ' ⟨b, 0, none⟩ 0 vs → K σ') : stN ⟨b, 0, none⟩ K vs 0 σ :=
  h.stAll hs hl hv fun σ' st r' => hK σ' st r' (Row.cellsAt r' st.sep)

end Go.Proofs.YthfpmipeejjogaaGreatDoor.Zt

/- Trees with homes, copies of ops, and the law's own example. -/
namespace Go.Proofs.YthfpmipeejjogaaGreatDoor.Zt
open Go Go.Proofs.YthfpmipeejjogaaGreatDoor.SL Go.Proofs.YthfpmipeejjogaaGreatDoor.G Go.Proofs.YthfpmipeejjogaaGreatDoor.Pa
set_option linter.unusedSimpArgs false
set_option linter.unusedVariables false
variable {B : World} {ro σ σ' : AH} {tag tag' : Nat → Nat}

/-- ops as they came in -/
def OpsR (ro : AH) (s : Sl) (ops : List MOp) : Prop := s.len = ops.length ∧ ∀ j o, ops[j]? = some o → ∃ q ds, s.a = some q ∧ (∀ σ, SL.cellsAt ro σ (q.add (j * 6)) 0 (opV o ds)) ∧ SL.Read ro (fun _ => none) ds (o.data.map vU) ∧ o.data.length ≤ 140737488351232
theorem OpsR.data {s : Sl} {ops : List MOp} (h : OpsR ro s ops) : ∀ o ∈ ops, o.data.length < 4611686018427387904 := fun o ho => by
  obtain ⟨j, hj, rfl⟩ := List.getElem_of_mem ho
  obtain ⟨_, _, _, _, _, h5⟩ := h.2 j _ (List.getElem?_eq_getElem hj)
  omega
/-- ops in memory, to be read only -/
def OpsM (ro σ : AH) (s : Sl) (ops : List MOp) : Prop := s.len = ops.length ∧ ∀ j o, ops[j]? = some o → ∃ q ds, s.a = some q ∧ SL.cellsAt ro σ (q.add (j * 6)) 0 (opV o ds) ∧ SL.Read ro (fun _ => none) ds (o.data.map vU) ∧ o.data.length ≤ 140737488351232
theorem OpsR.m {s : Sl} {ops : List MOp} (h : OpsR ro s ops) (σ : AH) : OpsM ro σ s ops := ⟨h.1, fun j o ho => by
  obtain ⟨q, ds, h1, h2, h3, h4⟩ := h.2 j o ho
  exact ⟨q, ds, h1, h2 σ, h3, h4⟩⟩
end Go.Proofs.YthfpmipeejjogaaGreatDoor.Zt

/- Usage stays within its quota; two blocks lent; scripts while blocks are lent. -/
namespace Go.Proofs.YthfpmipeejjogaaGreatDoor.SL
open Go
variable {ro σ σ' : AH} {tag tag' : Nat → Nat}
theorem join_assoc (a b c : AH) : join a (join b c) = join (join a b) c := by
  funext x; unfold join; cases a x <;> rfl
theorem lent_two (a b : Nat) {K : AH → AH → Prop} (h : K (join (one σ a) (one (del σ a) b)) (del (del σ a) b)) : lent σ K := by
  refine ⟨_, _, fun c o hc => ?_, ?_, h⟩
  · unfold join one del at hc; unfold del
    by_cases e : c = a
    · simp [e]
    · by_cases e' : c = b
      · simp [e']
      · simp [e, e'] at hc
  · funext c; unfold join one del
    by_cases e : c = a
    · subst e
      cases h : σ c <;> simp
    · by_cases e' : c = b
      · subst e'; cases h : σ c <;> simp [e]
      · simp [e, e']
theorem acell_ro {ψ τ : AH} {a : Addr} {v : Value} (h : acell ro (fun _ => none) a = some v) : acell (join ro ψ) τ a = some v := by
  unfold acell rd at h ⊢
  cases e : ro a.block with
  | none => rw [e] at h; simp [cellOf] at h
  | some o => rw [e] at h; rw [join_left e]; exact h
theorem cellsAt_ro {ψ τ : AH} {a : Addr} : ∀ {l : List Value} {i : Nat}, cellsAt ro (fun _ => none) a i l → cellsAt (join ro ψ) τ a i l
  | [], _, _ => trivial
  | _ :: _, _, h => ⟨acell_ro h.1, cellsAt_ro h.2⟩
theorem Read.ro' {ψ : AH} {s : Sl} {l : List Value} (h : Read ro (fun _ => none) s l) : Read (join ro ψ) (fun _ => none) s l :=
  ⟨h.1, h.2.1, fun p hp i v hv => acell_ro (h.2.2 p hp i v hv)⟩
theorem StepS.back {C : List Nat} {b : Nat} {τ : AH} (h : StepS C (join ro (one σ b)) tag (del σ b) tag' τ) (hs : Sep ro σ) (hd : Disj (one σ b) τ) (hb : ∃ o, σ b = some o) : StepS C ro tag σ (setTag tag' b (tag b)) (join (one σ b) τ) := by
  obtain ⟨R, h1, h2⟩ := h
  exact ⟨R, h1, h2.back hs hd hb⟩
theorem del_some {a b : Nat} {o : Obj} (h : σ b = some o) (hne : b ≠ a) : del σ a b = some o := by unfold del; rw [if_neg hne]; exact h
theorem disj_l {a b c : AH} (h : Disj (join a b) c) : Disj a c := fun x o hx => h x o (by unfold join; rw [hx])
theorem disj_r {a b : Nat} {τ : AH} (h : Disj (join (one σ a) (one (del σ a) b)) τ) : Disj (one (del σ a) b) τ := fun x o hx => h x o (by
  unfold join one del at *
  by_cases e : x = a
  · subst e
    split at hx
    · simp at hx
    · cases hx
  · simp only [e, if_false]; simp only [e, if_false] at hx; exact hx)
theorem disj_j {a b : Nat} {τ : AH} (h : Disj (join (one σ a) (one (del σ a) b)) τ) (hne : a ≠ b) : Disj (one σ a) (join (one (del σ a) b) τ) := fun x o hx => by
  have h1 := disj_l h x o hx
  unfold join one del
  unfold one at hx
  split at hx
  · rename_i e; subst e; simp only [hne, if_false]; exact h1
  · cases hx
end Go.Proofs.YthfpmipeejjogaaGreatDoor.SL
namespace Go.Proofs.YthfpmipeejjogaaGreatDoor.Zt
open Go Go.Proofs.YthfpmipeejjogaaGreatDoor.SL Go.Proofs.YthfpmipeejjogaaGreatDoor.G Go.Proofs.YthfpmipeejjogaaGreatDoor.Pa
set_option linter.unusedSimpArgs false
set_option linter.unusedVariables false
variable {B : World} {ro σ σ' : AH} {tag tag' : Nat → Nat}

/-! usage -/
/-! scripts -/
theorem OpsR.ro' {ψ : AH} {s : Sl} {ops : List MOp} (h : OpsR ro s ops) : OpsR (join ro ψ) s ops := by
  refine ⟨h.1, fun j o ho => ?_⟩
  obtain ⟨q, ds, h1, h2, h3, h4⟩ := h.2 j o ho
  exact ⟨q, ds, h1, fun σ => cellsAt_ro (h2 _), h3.ro', h4⟩
/-- a tree, with one block of another role lent -/
theorem TreeIs.del' {r T b x : Nat} {st : St} (h : TreeIs tag σ r T st) (hb : tag b = x) (hx : x < 64) (hr : r < 64) (hxr : x ≠ r) (hx6 : x ≠ 6) : TreeIs tag (SL.del σ b) r T st := by
  obtain ⟨M, bs, h⟩ := h
  refine ⟨M, bs, h.keys, h.len, h.nd, h.cell.del hb (Ne.symm hxr), h.map.del (by rw [hb]; omega), fun i c p hc hp => ?_⟩
  obtain ⟨s, h1, h2⟩ := h.nodes i c p hc hp
  exact ⟨s, h1.del hb (by omega), h2.del hb (by omega)⟩
end Go.Proofs.YthfpmipeejjogaaGreatDoor.Zt

/- results compared -/
namespace Go.Proofs.YthfpmipeejjogaaGreatDoor.Zt
open Go Go.Proofs.YthfpmipeejjogaaGreatDoor.SL Go.Proofs.YthfpmipeejjogaaGreatDoor.G Go.Proofs.YthfpmipeejjogaaGreatDoor.Pa
set_option linter.unusedSimpArgs false
set_option linter.unusedVariables false
set_option maxRecDepth 100000
variable {B : World} {ro σ σ' : AH} {tag tag' : Nat → Nat}
theorem eqint {a : Int} {τ : AH} : aread Tryz.prog ro (Op.equalIn (9998 + 1) 3 (.int .i64 a) (.int .i64 a)) τ = some true := by
  unfold Op.equalIn
  show aread Tryz.prog ro (Sem.bind (underlying 3) _) _ = _
  rw [underlying_bind _ _ (by kernel_rfl : Tryz.prog.underlying 3 = some (.int .i64))]
  show some (a == a) = some true
  simp
theorem aread_bind {α β : Type} {P : Program} (s : Sem α) (f : α → Sem β) {τ : AH} {a : α} (h : aread P ro s τ = some a) : aread P ro (Sem.bind s f) τ = aread P ro (f a) τ := by
  induction s with
  | pure x => cases h; rfl
  | load m x k ih =>
    simp only [aread] at h
    simp only [Sem.bind, aread]
    split at h
    · exact ih _ h
    · cases h
  | program k ih => exact ih _ h
  | mark m k ih => exact ih h
  | _ => cases h
end Go.Proofs.YthfpmipeejjogaaGreatDoor.Zt

/- Several changes are as one by one; a transaction read from a block that is lent. -/
namespace Go.Proofs.YthfpmipeejjogaaGreatDoor.Zt
open Go Go.Proofs.YthfpmipeejjogaaGreatDoor.SL Go.Proofs.YthfpmipeejjogaaGreatDoor.G Go.Proofs.YthfpmipeejjogaaGreatDoor.Pa
set_option linter.unusedSimpArgs false
set_option linter.unusedVariables false
variable {B : World} {ro σ σ' : AH} {tag tag' : Nat → Nat}

/-! the same on trees that are the same but for their order -/
/-! a block lent -/
theorem RowW.back {r : Nat} {e : TypeId} {w : Nat} {s : Sl} {l : List (List Value)} {b r' : Nat} {τ : AH} (h : RowW tag' τ r e w s l) (hd : Disj (SL.one σ b) τ) (hb : ∃ o, σ b = some o) : RowW (setTag tag' b r') (join (SL.one σ b) τ) r e w s l := by
  rcases h with h | ⟨c, cs, ha, ht, hs, hx⟩
  · exact .inl h
  · have hcb : c ≠ b := fun e => by
      obtain ⟨o, ho⟩ := hb
      have := hd b o (by unfold SL.one; rw [if_pos rfl]; exact ho)
      rw [← e, hs] at this; cases this
    exact .inr ⟨c, cs, ha, by unfold setTag; rw [if_neg hcb]; exact ht, by unfold join SL.one; rw [if_neg hcb]; exact hs, hx⟩
theorem region_back {X : Nat} {C : List Nat} {tag1 : Nat → Nat} {σ1 : AH} (hs : SL.Sep ro σ) (hX : ∃ o, σ X = some o) (hd : Disj (SL.one σ X) σ1) (st : StepS C (join ro (SL.one σ X)) tag (SL.del σ X) tag1 σ1) :
    ∃ tag2, StepS C ro tag σ tag2 (join (SL.one σ X) σ1) ∧ (∀ r T st, TreeIs tag1 σ1 r T st → TreeIs tag2 (join (SL.one σ X) σ1) r T st) ∧ (∀ r e w s l, RowW tag1 σ1 r e w s l → RowW tag2 (join (SL.one σ X) σ1) r e w s l) ∧ (∀ r e s l, Row tag1 σ1 r e s l → Row tag2 (join (SL.one σ X) σ1) r e s l) :=
  ⟨_, StepS.back st hs hd hX, fun r T st h => h.back hd hX, fun r e w s l h => RowW.back h hd hX, fun r e s l h => h.back hd hX⟩
end Go.Proofs.YthfpmipeejjogaaGreatDoor.Zt

/- The document's tree in memory: its blocks, and Get. -/
namespace Go.Proofs.YthfpmipeejjogaaGreatDoor.SL
open Go
variable {ro σ σ' : AH} {tag tag' : Nat → Nat}
theorem acell_lent (b : Nat) (a : Addr) : acell (join ro (one σ b)) (SL.del σ b) a = acell ro σ a := by unfold acell; rw [rd_lent]
theorem acell_one {a : Addr} {v : Value} {τ : AH} (h : acell ro σ a = some v) : acell (join ro (one σ a.block)) τ a = some v := by
  unfold acell rd at h ⊢
  unfold join one
  cases e : ro a.block with
  | some o => rw [e] at h; exact h
  | none =>
    rw [e] at h
    simp only [if_true]
    cases e' : σ a.block with
    | some o => rw [e'] at h; exact h
    | none => rw [e'] at h; simp [cellOf] at h
end Go.Proofs.YthfpmipeejjogaaGreatDoor.SL
namespace Go.Proofs.YthfpmipeejjogaaGreatDoor.Zt
open Go Go.Proofs.YthfpmipeejjogaaGreatDoor.SL Go.Proofs.YthfpmipeejjogaaGreatDoor.G Go.Proofs.YthfpmipeejjogaaGreatDoor.Pa
set_option linter.unusedSimpArgs false
set_option linter.unusedVariables false
variable {B : World} {ro σ σ' : AH} {tag tag' : Nat → Nat}

/-- the document's tree: its block (role r), its nodes (role r + 64), their data in rows of data -/
def RefIs (tag : Nat → Nat) (σ : AH) (r T : Nat) (l : St) : Prop := ∃ (s : Sl) (ds : List Sl), ds.length = l.length ∧ Row tag σ r 157 ⟨some ⟨T, 0, none⟩, 1, 1⟩ [Sl.v s] ∧ RowW tag σ (r + 64) 159 5 s (List.zipWith nodeV l ds) ∧
  ∀ (i : Nat) (p : Str × Nd) (d : Sl), l[i]? = some p → ds[i]? = some d → Row tag σ 6 5 d (p.2.data.map vU)
theorem RefIs.keepS {C : List Nat} {r T : Nat} {l : St} (h : RefIs tag σ r T l) (k : StepS C ro tag σ tag' σ') (hr : r % 64 ∉ C) (h6 : 6 ∉ C) : RefIs tag' σ' r T l := by
  obtain ⟨s, ds, h1, h2, h3, h4⟩ := h
  exact ⟨s, ds, h1, h2.keepS k hr, RowW.keepS h3 k (by rw [show (r + 64) % 64 = r % 64 by omega]; exact hr), fun i p d hp hd => (h4 i p d hp hd).keepS k h6⟩
theorem RefIs.m {r T : Nat} {l : St} (h : RefIs tag σ r T l) (hs : SL.Sep ro σ) : RefM ro σ T l := by
  obtain ⟨s, ds, h1, h2, h3, h4⟩ := h
  obtain ⟨p, hp, hg⟩ := h2.ptr hs (by simp)
  cases hp
  have hl := h3.len
  rw [List.length_zipWith, h1, Nat.min_self] at hl
  refine ⟨s, by have := hg 0 _ rfl; rwa [Nat.zero_mul, add_zero] at this, hl, fun j p hj => ?_⟩
  have hjl : j < l.length := by
    rcases Nat.lt_or_ge j l.length with h | h
    · exact h
    · rw [List.getElem?_eq_none h] at hj; cases hj
  have hd : ds[j]? = some ds[j] := List.getElem?_eq_getElem (by omega)
  obtain ⟨b, ha, _, hc⟩ := RowW.get h3 hs (j := j) (x := nodeV p ds[j]) (by rw [List.getElem?_zipWith, hj, hd])
  exact ⟨b, ds[j], ha, hc, (h4 j p _ hj hd).read hs⟩
theorem RefM.lent {T : Nat} {l : St} (b : Nat) (h : RefM ro σ T l) : RefM (join ro (SL.one σ b)) (SL.del σ b) T l := by
  obtain ⟨s, h1, h2, h3⟩ := h
  refine ⟨s, by rw [acell_lent]; exact h1, h2, fun j p hj => ?_⟩
  obtain ⟨c, d, ha, hc, hd⟩ := h3 j p hj
  exact ⟨c, d, ha, fun i v hv => by rw [acell_lent]; exact hc i v hv, hd.lent b⟩
/-- the block of the nodes -/
theorem RefIs.blocks {r T : Nat} {l : St} {p : Str × Nd} {j : Nat} (h : RefIs tag σ r T l) (hr : r < 64) (hj : l[j]? = some p) : ∃ (s : Sl) (b : Nat), s.a = some ⟨b, 0, none⟩ ∧ s.len = l.length ∧ tag b = r + 64 ∧ tag T = r ∧ (∃ o, σ b = some o) ∧ (∃ o, σ T = some o) ∧ T ≠ b ∧ ∀ ro, SL.Sep ro σ → acell ro σ ⟨T, 0, none⟩ = some (Sl.v s) := by
  obtain ⟨s, ds, h1, h2, h3, h4⟩ := h
  have hl := h3.len
  rw [List.length_zipWith, h1, Nat.min_self] at hl
  obtain ⟨tT, oT⟩ := h2.tagOf
  have hjl : j < l.length := by
    rcases Nat.lt_or_ge j l.length with h | h
    · exact h
    · rw [List.getElem?_eq_none h] at hj; cases hj
  rcases h3 with ⟨rfl, _⟩ | ⟨b, cs, ha, ht, hb, hx⟩
  · simp at hl; omega
  · refine ⟨s, b, ha, hl, ht, tT, ⟨_, hb⟩, oT, fun e => ?_, fun ro hs => ?_⟩
    · rw [← e] at ht; omega
    · obtain ⟨p, hp, hg⟩ := h2.ptr hs (by simp)
      cases hp
      have := hg 0 _ rfl
      rwa [Nat.zero_mul, add_zero] at this

/-- a path's parts by the document: what was owned is as it was -/
theorem rparts2_ok {s : ByteArray} {Q : Sl → Bool → AH → Prop} (r : Nat) (hs : SL.Sep ro σ) (hnone : parts (L s) = none → ∀ sl tag' σ', Step [] ro tag σ tag' σ' → Q sl false σ')
    (hsome : ∀ ps, parts (L s) = some ps → ∀ sl tag' σ', Step [] ro tag σ tag' σ' → Row tag' σ' r 9 sl (ps.map Pa.vS) → Q sl true σ') : c_ref02_Parts B ro s σ Q := by
  have base : c_ref02_Parts B ro s (fun _ => none) (fun sl e σ' => (parts (L s) = none ∧ e = false) ∨ ∃ ps tag', parts (L s) = some ps ∧ e = true ∧ Row tag' σ' r 9 sl (ps.map Pa.vS)) :=
    Pa.rparts_ok (tag := fun _ => 0) r (fun h _ _ => .inl ⟨h, rfl⟩) fun ps h sl tag' σ' _ hr => .inr ⟨ps, tag', h, rfl, hr⟩
  have fr := c_ref02_Parts_frame (ψ := σ) base (fun b o h => by cases h)
  have e : join (fun _ => none) σ = σ := by funext b; rfl
  rw [e] at fr
  refine c_ref02_Parts_mono fr ?_
  rintro sl ev σ' hsep ⟨τ, rfl, hd, hq⟩
  have keep : ∀ (tg : Nat → Nat), (∀ b, τ b = none → tg b = tag b) → Step [] ro tag σ tg (join τ σ) := fun tg htg => by
    have hn : ∀ b o, σ b = some o → τ b = none := fun b o ho => by
      cases h : τ b with
      | none => rfl
      | some x => have := hd b x h; rw [ho] at this; cases this
    refine ⟨fun b o ho _ => ⟨htg b (hn b o ho), join_right hd ho⟩, fun b o ho => ⟨htg b (hn b o ho), o, join_right hd ho⟩, hsep⟩
  rcases hq with ⟨h, rfl⟩ | ⟨ps, tg, h, rfl, hr⟩
  · exact hnone h sl tag _ (keep tag fun _ _ => rfl)
  · refine hsome ps h sl (fun b => if (τ b).isSome then tg b else tag b) _ (keep _ fun b hb => by simp [hb]) ?_
    rcases hr with h | ⟨b, cs, ha, ht, hb, hx⟩
    · exact .inl h
    · exact .inr ⟨b, cs, ha, by simp [hb, ht], by unfold join; rw [hb], hx⟩
theorem fnd_spec {l : St} {k : Str} : ∀ (i : Nat), (l.lookup k = none ∧ fnd l k i = -1) ∨ ∃ j n, l[j]? = some (k, n) ∧ l.lookup k = some n ∧ fnd l k i = ((i + j : Nat) : Int) := by
  induction l with
  | nil => intro i; exact .inl ⟨rfl, rfl⟩
  | cons p r ih =>
    intro i
    obtain ⟨q, n⟩ := p
    by_cases c : q = k
    · subst c
      exact .inr ⟨0, n, rfl, by simp, by simp [fnd]⟩
    · have hne : (k == q) = false := by simpa using fun e => c e.symm
      rcases ih (i + 1) with ⟨h1, h2⟩ | ⟨j, n', h1, h2, h3⟩
      · exact .inl ⟨by rw [List.lookup_cons, hne]; exact h1, by unfold fnd; rw [if_neg c]; exact h2⟩
      · exact .inr ⟨j + 1, n', by simpa using h1, by rw [List.lookup_cons, hne]; exact h2, by unfold fnd; rw [if_neg c, h3]; congr 1; omega⟩
end Go.Proofs.YthfpmipeejjogaaGreatDoor.Zt

/- The document's tree: Get. -/
namespace Go.Proofs.YthfpmipeejjogaaGreatDoor.Zt
open Go Go.Proofs.YthfpmipeejjogaaGreatDoor.SL Go.Proofs.YthfpmipeejjogaaGreatDoor.G Go.Proofs.YthfpmipeejjogaaGreatDoor.Pa
set_option linter.unusedSimpArgs false
set_option linter.unusedVariables false
variable {B : World} {ro σ σ' : AH} {tag tag' : Nat → Nat}

set_option maxRecDepth 100000 in
theorem get7_ok {r T : Nat} {l : St} {k : Str} {Q : ByteArray → Sl → Int → Int → Int → Int → Int → AH → Prop} (hr : r < 64) (hr0 : r ≠ 0) (hr6 : r ≠ 6) (h : RefIs tag σ r T l) (hl : l.length ≤ 4294967296)
    (hbad : parts k = none → ∀ tag' σ', StepS [0] ro tag σ tag' σ' → Q ByteArray.empty ⟨none, 0, 0⟩ 0 0 0 0 20 σ')
    (hmiss : ∀ ps, parts k = some ps → l.lookup k = none → ∀ tag' σ', StepS [0] ro tag σ tag' σ' → Q ByteArray.empty ⟨none, 0, 0⟩ 0 0 0 0 70 σ')
    (hhit : ∀ n, l.lookup k = some n → ∀ d tag' σ', StepS [0] ro tag σ tag' σ' → Row tag' σ' 6 5 d (n.data.map vU) → Q (S k) d n.ver n.ctr n.own ((kc (l.map (·.1)) k : Nat) : Int) 0 σ') :
    c_ref07_Tree_Get B ro (some ⟨T, 0, none⟩) (S k) σ Q := by
  refine ref07_Tree_Get_ok fun hs => ?_
  unfold f_ref07_Tree_Get
  refine nw_cells (tag := tag) 0 hs fun X tag1 σ1 st1 r1 => ?_
  have fin : ∀ (e : Int) tag2 σ2, StepS [0] ro tag σ tag2 σ2 → Row tag2 σ2 0 159 ⟨some ⟨X, 0, none⟩, 5, 5⟩ [.string ByteArray.empty, Sl.v ⟨none, 0, 0⟩, .int .i64 0, .int .i64 0, .int .i64 0] → (∀ tag' σ', StepS [0] ro tag σ tag' σ' → Q ByteArray.empty ⟨none, 0, 0⟩ 0 0 0 0 e σ') →
      stN ⟨X, 0, none⟩ (fun σ => ∃ (x4_4a : ByteArray) (x4_4b : Sl) (x4_4c : Int) (x4_4d : Int) (x4_4e : Int), SL.cellsAt ro σ ⟨X, 0, none⟩ 0 [.string x4_4a, Sl.v x4_4b, .int .i64 x4_4c, .int .i64 x4_4d, .int .i64 x4_4e] ∧ Q x4_4a x4_4b x4_4c x4_4d x4_4e 0 e σ) [.string ByteArray.empty, Sl.v (⟨none, 0, 0⟩ : Sl), .int .i64 0, .int .i64 0, .int .i64 0] 0 σ2 := by
    intro e tag2 σ2 st2 r2 hq
    refine stA_cells r2 st2.sep rfl (by simp [storable, Sl.v]) fun σ3 st3 r3 c3 => ?_
    exact ⟨_, _, _, _, _, c3, hq tag2 σ3 (st2.trans (st3.s (by simp)))⟩
  refine rparts2_ok (tag := tag1) 22 (st1 []).sep (fun hb sl tag2 σ2 st2 => ?_) fun ps hps sl tag2 σ2 st2 _ => ?_
  · rw [if_pos (by simp)]
    rw [L_S] at hb
    exact fin 20 tag2 σ2 (((st1 []).s (by simp)).trans (st2.s (by simp))) (r1.keep st2 (by simp)) (hbad hb)
  rw [if_neg (by simp)]
  rw [L_S] at hps
  have st02 : StepS [0] ro tag σ tag2 σ2 := ((st1 []).s (by simp)).trans (st2.s (by simp))
  have h2 := (h.keepS ((st1 []).s (C := []) (by simp)) (by simp) (by simp)).keepS (st2.s (C := []) (by simp)) (by simp) (by simp)
  have r2 := r1.keep st2 (by simp)
  have hs2 := st02.sep
  refine find7_ok (h2.m hs2) hl ?_
  rcases fnd_spec (l := l) (k := k) 0 with ⟨e1, e2⟩ | ⟨j, n, e1, e2, e3⟩
  · rw [e2, if_pos (by decide)]
    exact fin 70 tag2 σ2 st02 r2 (hmiss ps hps e1)
  rw [e3, if_neg (by omega), Nat.zero_add]
  obtain ⟨s, b, ha, hsl, tb, tT, hbo, hTo, hne, hcT⟩ := h2.blocks hr e1
  have hjl : j < l.length := by
    rcases Nat.lt_or_ge j l.length with h | h
    · exact h
    · rw [List.getElem?_eq_none h] at e1; cases e1
  obtain ⟨s', ds, g1, g2, g3, g4⟩ := id h2
  have hss : s' = s := by
    obtain ⟨p, hp, hg⟩ := g2.ptr hs2 (by simp)
    cases hp
    have h0 := hg 0 _ rfl
    rw [Nat.zero_mul, add_zero] at h0
    have := (hcT ro hs2).symm.trans h0
    injection this with this
    injection this with h1 h2 h3
    cases s; cases s'; simp_all
  subst hss
  have hgd : ds[j]? = some ds[j] := List.getElem?_eq_getElem (by omega)
  obtain ⟨b', ha', _, hcell⟩ := RowW.get g3 hs2 (j := j) (x := nodeV (k, n) ds[j]) (by rw [List.getElem?_zipWith, e1, hgd])
  have hdr := g4 j _ _ e1 hgd
  generalize ds[j] = d at hcell hdr
  obtain rfl : b' = b := by rw [ha] at ha'; cases ha'; rfl
  refine lent_two T b' ?_
  rw [join_assoc]
  have hsA : SL.Sep (join ro (SL.one σ2 T)) (SL.del σ2 T) := hs2.lent
  have hsB := hsA.lent (b := b')
  refine ⟨_, rfl, s', acell_ro (acell_one (hcT ro hs2)), _, ha, by omega, by omega, S k, d, n.ver, n.ctr, n.own, cellsAt_of 0 fun i v hv => ?_, ?_⟩
  · rw [Int.toNat_natCast, add_add, add_add, Nat.zero_add, Nat.zero_add]
    refine acell_one (a := ⟨b', j * 5 + i, none⟩) ?_
    rw [acell_lent]
    exact hcell i v hv
  refine below7_ok ((h2.m hs2).lent T |>.lent b') hl ?_
  have tX := r2.tagOf.1
  have rX := (r2.del tT (Ne.symm hr0)).del tb (by omega)
  refine rX.stAll hsB rfl (by simp [storable, Sl.v]) fun σ3 st3 r3 => ?_
  intro hdis
  have hbA : ∃ o, SL.del σ2 T b' = some o := by
    obtain ⟨o, ho⟩ := hbo
    exact ⟨o, del_some ho (Ne.symm hne)⟩
  have dX := disj_j hdis hne
  have stA := st3.back hsA (disj_r hdis) hbA
  have stB := stA.back hs2 dX hTo
  have r4 := (r3.back (r' := tag2 b') (disj_r hdis) hbA).back (r' := tag2 T) dX hTo
  rw [← join_assoc]
  have c4 := Row.cellsAt r4 stB.sep
  refine ⟨_, _, _, _, _, c4, hhit n e2 d _ _ (st02.trans (stB.s (by simp))) ?_⟩
  exact hdr.keepS (stB.s (C := [0]) (by simp)) (by decide)
end Go.Proofs.YthfpmipeejjogaaGreatDoor.Zt

/- The document's tree: Children, Paths. -/
namespace Go.Proofs.YthfpmipeejjogaaGreatDoor.Zt
open Go Go.Proofs.YthfpmipeejjogaaGreatDoor.SL Go.Proofs.YthfpmipeejjogaaGreatDoor.G Go.Proofs.YthfpmipeejjogaaGreatDoor.Pa
set_option linter.unusedSimpArgs false
set_option linter.unusedVariables false
variable {B : World} {ro σ σ' : AH} {tag tag' : Nat → Nat}

theorem RefM.row {T j : Nat} {l : St} {p : Str × Nd} (h : RefM ro σ T l) (hj : l[j]? = some p) : ∃ (s : Sl) (b : Nat) (d : Sl), acell ro σ ⟨T, 0, none⟩ = some (Sl.v s) ∧ s.len = l.length ∧ s.a = some ⟨b, 0, none⟩ ∧ ∀ (i : Nat) (v : Value), (nodeV p d)[i]? = some v → acell ro σ (((⟨b, 0, none⟩ : Addr).add (Int.toNat (j : Int) * 5)).add i) = some v := by
  obtain ⟨s, h1, h2, h3⟩ := h
  obtain ⟨b, d, ha, hc, _⟩ := h3 j p hj
  exact ⟨s, b, d, h1, h2, ha, fun i v hv => by rw [Int.toNat_natCast, add_add, add_add, Nat.zero_add]; exact hc i v hv⟩
theorem RefM.len {T : Nat} {l : St} (h : RefM ro σ T l) : ∃ s : Sl, acell ro σ ⟨T, 0, none⟩ = some (Sl.v s) ∧ s.len = l.length := by
  obtain ⟨s, h1, h2, _⟩ := h
  exact ⟨s, h1, h2⟩
theorem namesOf_snoc (a : List Str) (x k : Str) : namesOf (a ++ [x]) k = namesOf a k ++ (if parent x = some k then (base x).toList else []) := by
  unfold namesOf
  rw [List.filterMap_append]
  congr 1
  by_cases c : parent x = some k
  · rw [if_pos c, List.filterMap_cons, if_pos c]; cases base x <;> rfl
  · rw [if_neg c, List.filterMap_cons, if_neg c]; rfl
theorem parent_base {x u : Str} (h : parent x = some u) : ∃ n, base x = some n := by
  obtain ⟨ps, h1, h2, _⟩ := parts_up' h
  unfold base
  rw [h1]
  exact ⟨ps.getLast h2, by simp [List.getLast?_eq_some_getLast h2]⟩
where
  parts_up' {q u : Str} (h : parent q = some u) : ∃ qs, parts q = some qs ∧ qs ≠ [] ∧ True := by
    unfold parent at h
    cases hq : parts q with
    | none => rw [hq] at h; cases h
    | some qs =>
      rw [hq] at h
      simp only at h
      split at h
      · cases h
      · rename_i hne; exact ⟨qs, rfl, hne, trivial⟩
set_option maxRecDepth 100000 in
theorem children7_ok {r T q : Nat} {l : St} {k : Str} {Q : Sl → Int → AH → Prop} (hr : r < 64) (hr0 : r ≠ 0) (hr6 : r ≠ 6) (hq : q < 64) (hqr : q ≠ r) (hq6 : q ≠ 6) (h : RefIs tag σ r T l) (hl : l.length ≤ 4294967296)
    (hbad : parts k = none → ∀ tag' σ', StepS [0] ro tag σ tag' σ' → Q ⟨none, 0, 0⟩ 20 σ')
    (hmiss : ∀ ps, parts k = some ps → l.lookup k = none → ∀ tag' σ', StepS [0] ro tag σ tag' σ' → Q ⟨none, 0, 0⟩ 70 σ')
    (hhit : ∀ n, l.lookup k = some n → ∀ s tag' σ', StepS [0, q] ro tag σ tag' σ' → Row tag' σ' q 9 s ((namesOf (l.map (·.1)) k).map Pa.vS) → Q s 0 σ') :
    c_ref07_Tree_Children B ro (some ⟨T, 0, none⟩) (S k) σ Q := by
  refine ref07_Tree_Children_ok fun hs => ?_
  unfold f_ref07_Tree_Children
  have after : ∀ (a : ByteArray) (d : Sl) (v c o kd e : Int) tag1 σ1, StepS [0] ro tag σ tag1 σ1 → (∀ tag2 σ2, StepS [0] ro tag σ tag2 σ2 → if ¬ (e = 0) then Q ⟨none, 0, 0⟩ e σ2 else lfpD (l7_ref07_Tree_Children B ro (some ⟨T, 0, none⟩) (S k) Q) ((⟨none, 0, 0⟩ : Sl), 0) σ2) →
      nw ro σ1 (.cells #[.string ByteArray.empty, Sl.v (⟨none, 0, 0⟩ : Sl), .int .i64 0, .int .i64 0, .int .i64 0] 159) fun x6_4 σ => stN ⟨x6_4, 0, none⟩ (fun σ => if ¬ (e = 0) then Q (⟨none, 0, 0⟩ : Sl) e σ else lfpD (l7_ref07_Tree_Children B ro (some ⟨T, 0, none⟩) (S k) Q) ((⟨none, 0, 0⟩ : Sl), 0) σ) [.string a, Sl.v d, .int .i64 v, .int .i64 c, .int .i64 o] 0 σ := by
    intro a d v c o kd e tag1 σ1 st1 hK
    refine nw_st (tag := tag1) 0 st1.sep rfl (by simp [storable, Sl.v]) fun X tag2 σ2 st2 _ => ?_
    exact hK tag2 σ2 (st1.trans ((st2 []).s (by simp)))
  refine get7_ok hr hr0 hr6 h hl (fun hb tag1 σ1 st1 => ?_) (fun ps hps hn tag1 σ1 st1 => ?_) fun n hn d tag1 σ1 st1 _ => ?_
  · refine after _ _ _ _ _ 0 20 tag1 σ1 st1 fun tag2 σ2 st2 => ?_
    rw [if_pos (by decide)]; exact hbad hb tag2 σ2 st2
  · refine after _ _ _ _ _ 0 70 tag1 σ1 st1 fun tag2 σ2 st2 => ?_
    rw [if_pos (by decide)]; exact hmiss ps hps hn tag2 σ2 st2
  refine after _ _ _ _ _ 0 0 tag1 σ1 st1 fun tag2 σ2 st2 => ?_
  rw [if_neg (by simp)]
  suffices ∀ m j s tag3 σ3, j + m = l.length → StepS [0, q] ro tag σ tag3 σ3 → Row tag3 σ3 q 9 s ((namesOf ((l.take j).map (·.1)) k).map Pa.vS) → lfpD (l7_ref07_Tree_Children B ro (some ⟨T, 0, none⟩) (S k) Q) (s, (j : Int)) σ3 from
    this _ 0 _ tag2 σ2 (Nat.zero_add _) (st2.mono (by simp)) (Row.nil q 9)
  intro m
  induction m with
  | zero =>
    intro j s tag3 σ3 hj st3 r3
    have h3 := (h.keepS st3 (by rw [Nat.mod_eq_of_lt hr]; simp; omega) (by simp; omega)).m st3.sep
    obtain ⟨s0, e1, e2⟩ := h3.len
    refine lfpD.intro ?_
    unfold l7_ref07_Tree_Children
    simp only
    refine ⟨_, rfl, s0, e1, ?_⟩
    rw [if_neg (by omega)]
    unfold j5_ref07_Tree_Children
    rw [List.take_of_length_le (by omega)] at r3
    exact hhit n hn s tag3 σ3 st3 r3
  | succ m ih =>
    intro j s tag3 σ3 hj st3 r3
    have hjl : j < l.length := by omega
    have h3 := (h.keepS st3 (by rw [Nat.mod_eq_of_lt hr]; simp; omega) (by simp; omega)).m st3.sep
    obtain ⟨s0, b, d, e1, e2, e3, e4⟩ := h3.row (List.getElem?_eq_getElem hjl)
    have etk : (l.take (j + 1)).map (·.1) = (l.take j).map (·.1) ++ [l[j].1] := by
      rw [List.take_add_one, List.getElem?_eq_getElem hjl, List.map_append]; rfl
    have hnl : (namesOf ((l.take j).map (·.1)) k).length ≤ j := by
      unfold namesOf
      refine Nat.le_trans (List.length_filterMap_le _ _) ?_
      rw [List.length_map, List.length_take]; omega
    refine lfpD.intro ?_
    unfold l7_ref07_Tree_Children
    simp only
    refine ⟨_, rfl, s0, e1, ?_⟩
    rw [if_pos (by omega)]
    refine ⟨_, rfl, s0, e1, _, e3, by omega, by omega, S l[j].1, by have := e4 0 _ rfl; rwa [add_zero] at this, ?_⟩
    have skip : namesOf ((l.take (j + 1)).map (·.1)) k = namesOf ((l.take j).map (·.1)) k → j12_ref07_Tree_Children B ro (some ⟨T, 0, none⟩) (S k) (j : Int) Q (lfpD (l7_ref07_Tree_Children B ro (some ⟨T, 0, none⟩) (S k) Q)) s σ3 := fun e => by
      unfold j12_ref07_Tree_Children
      rw [Pa.inc j (by omega)]
      exact ih (j + 1) s tag3 σ3 (by omega) st3 (by rw [e]; exact r3)
    refine rparent_ok (fun hu => ?_) fun u hu => ?_
    · rw [if_neg (by simp)]
      rw [L_S] at hu
      exact skip (by rw [etk, namesOf_snoc, if_neg (by rw [hu]; simp), List.append_nil])
    rw [L_S] at hu
    by_cases c : u = k
    · subst c
      rw [if_pos ⟨rfl, rfl⟩]
      obtain ⟨nm, hnm⟩ := parent_base hu
      refine ⟨_, rfl, s0, e1, _, e3, by omega, by omega, S l[j].1, by have := e4 0 _ rfl; rwa [add_zero] at this, ?_⟩
      refine rbase_ok (fun hb => by rw [L_S, hnm] at hb; cases hb) fun x hx => ?_
      rw [L_S, hnm] at hx
      cases hx
      refine nw_cells (tag := tag3) 0 st3.sep fun X tag4 σ4 st4 r4 => ?_
      have r34 := r3.keep (st4 []) (by simp)
      refine awp_append1 r34 (st4 []).sep Pa.t25 ty9 rfl rfl (Row.cell1 r4 (st4 []).sep) rfl (by rw [List.length_map]; omega) (by decide) fun s' tag5 σ5 st5 r5 => ?_
      refine ⟨s', rfl, ?_⟩
      unfold j12_ref07_Tree_Children
      rw [Pa.inc j (by omega)]
      refine ih (j + 1) s' tag5 σ5 (by omega) (st3.trans (((st4 []).s (by simp)).trans (st5.s (by simp [Nat.mod_eq_of_lt hq])))) ?_
      rw [etk, namesOf_snoc, if_pos hu, hnm, List.map_append]
      exact r5
    · rw [if_neg (by rw [S_inj]; exact fun h => c h.2)]
      exact skip (by rw [etk, namesOf_snoc, if_neg (by rw [hu]; simpa using c), List.append_nil])
end Go.Proofs.YthfpmipeejjogaaGreatDoor.Zt

/- The document's tree: Under, Paths, lists of texts compared. -/
namespace Go.Proofs.YthfpmipeejjogaaGreatDoor.Zt
open Go Go.Proofs.YthfpmipeejjogaaGreatDoor.SL Go.Proofs.YthfpmipeejjogaaGreatDoor.G Go.Proofs.YthfpmipeejjogaaGreatDoor.Pa
set_option linter.unusedSimpArgs false
set_option linter.unusedVariables false
variable {B : World} {ro σ σ' : AH} {tag tag' : Nat → Nat}

theorem isPrefixOf_get {ps qs : List Str} (h : ps.length ≤ qs.length) : ps.isPrefixOf qs = decide (∀ j, j < ps.length → ps[j]? = qs[j]?) := by
  rw [Bool.eq_iff_iff, List.isPrefixOf_iff_prefix, decide_eq_true_eq]
  constructor
  · rintro ⟨t, rfl⟩ j hj
    rw [List.getElem?_append_left hj]
  · intro hall
    refine ⟨qs.drop ps.length, ?_⟩
    apply List.ext_getElem?
    intro i
    rcases Nat.lt_or_ge i ps.length with c | c
    · rw [List.getElem?_append_left c]; exact hall i c
    · rw [List.getElem?_append_right c, List.getElem?_drop]; congr 1; omega
set_option maxRecDepth 100000 in
theorem runder_ok {p q : ByteArray} {Q : Bool → Bool → AH → Prop} (hnone : under (L p) (L q) = none → Q false false σ) (hsome : ∀ b, under (L p) (L q) = some b → Q b true σ) : c_ref02_Under B ro p q σ Q := by
  refine ACalls.quiet (R := fun v => ∃ r0 r1, v = .tuple #[.bool r0, .bool r1] ∧ ((under (L p) (L q) = none ∧ r0 = false ∧ r1 = false) ∨ ∃ b, under (L p) (L q) = some b ∧ r0 = b ∧ r1 = true)) ?_ ?_
  · have : c_ref02_Under B ro p q (fun _ => none) fun r0 r1 _ => (under (L p) (L q) = none ∧ r0 = false ∧ r1 = false) ∨ ∃ b, under (L p) (L q) = some b ∧ r0 = b ∧ r1 = true := by
      refine ref02_Under_ok fun hs => ?_
      unfold f_ref02_Under
      refine rparts2_ok (tag := fun _ => 0) 1 hs (fun h sl tag1 σ1 st1 => ?_) (fun ps hps sl tag1 σ1 st1 r1 => ?_)
      · refine rparts2_ok (tag := tag1) 2 st1.sep (fun h2 sl2 tag2 σ2 st2 => ?_) (fun qs hqs sl2 tag2 σ2 st2 r2 => ?_)
        · rw [if_pos (by simp)]; exact .inl ⟨by unfold under; rw [h], rfl, rfl⟩
        · rw [if_pos (by simp)]; exact .inl ⟨by unfold under; rw [h], rfl, rfl⟩
      · refine rparts2_ok (tag := tag1) 2 st1.sep (fun h2 sl2 tag2 σ2 st2 => ?_) (fun qs hqs sl2 tag2 σ2 st2 r2 => ?_)
        · rw [if_pos (by simp)]; exact .inl ⟨by unfold under; rw [hps, h2], rfl, rfl⟩
        have eu : under (L p) (L q) = some (ps.isPrefixOf qs) := by unfold under; rw [hps, hqs]
        have r12 := r1.keep st2 (by simp)
        have l1 : sl.len = ps.length := by rw [r1.len, List.length_map]
        have l2 : sl2.len = qs.length := by rw [r2.len, List.length_map]
        have h8 := (parts_iff.1 hps).2.n
        rw [if_neg (by simp)]
        by_cases hc : qs.length < ps.length
        · rw [if_pos (by omega)]
          refine .inr ⟨_, eu, ?_, rfl⟩
          symm
          rw [Bool.eq_false_iff]
          intro h
          have := (List.isPrefixOf_iff_prefix.1 h).length_le
          omega
        rw [if_neg (by omega)]
        rw [isPrefixOf_get (by omega)] at eu
        suffices ∀ m j, j + m = ps.length → (∀ i, i < j → ps[i]? = qs[i]?) → lfpD (l6_ref02_Under B ro sl sl2 fun r0 r1 _ => (under (L p) (L q) = none ∧ r0 = false ∧ r1 = false) ∨ ∃ b, under (L p) (L q) = some b ∧ r0 = b ∧ r1 = true) (j : Int) σ2 from
          this _ 0 (Nat.zero_add _) fun i h => absurd h (Nat.not_lt_zero _)
        intro m
        induction m with
        | zero =>
          intro j hj hall
          refine lfpD.intro ?_
          unfold l6_ref02_Under
          rw [if_neg (by omega)]
          unfold j5_ref02_Under
          exact .inr ⟨_, eu, (decide_eq_true fun i hi => hall i (by omega)).symm, rfl⟩
        | succ m ih =>
          intro j hj hall
          have h1 : j < ps.length := by omega
          have h2 : j < qs.length := by omega
          obtain ⟨p1, e1, _, g1⟩ := Row.sget r12 st2.sep (by omega)
          obtain ⟨p2, e2, _, g2⟩ := Row.sget r2 st2.sep (by omega)
          refine lfpD.intro ?_
          unfold l6_ref02_Under
          rw [if_pos (by omega)]
          refine ⟨p1, e1, by omega, by omega, p2, e2, by omega, by omega, S ps[j], by rw [Int.toNat_natCast]; exact g1 j h1, S qs[j], by rw [Int.toNat_natCast]; exact g2 j h2, ?_⟩
          by_cases c : ps[j] = qs[j]
          · rw [if_neg (by rw [S_inj]; simpa using c), Pa.inc j (by omega)]
            refine ih (j + 1) (by omega) fun i hi => ?_
            rcases Nat.lt_or_ge i j with h | h
            · exact hall i h
            · obtain rfl : i = j := by omega
              rw [List.getElem?_eq_getElem h1, List.getElem?_eq_getElem h2, c]
          · rw [if_pos (by rw [S_inj]; exact c)]
            refine .inr ⟨_, eu, ?_, rfl⟩
            symm
            rw [decide_eq_false_iff_not]
            intro h
            have := h j h1
            rw [List.getElem?_eq_getElem h1, List.getElem?_eq_getElem h2] at this
            exact c (Option.some.inj this)
    exact ACalls.mono this fun v τ ⟨r0, r1, hv, h⟩ => ⟨r0, r1, hv, h⟩
  · rintro v ⟨r0, r1, hv, ⟨h, rfl, rfl⟩ | ⟨b, h, rfl, rfl⟩⟩
    · exact ⟨_, _, hv, hnone h⟩
    · exact ⟨_, _, hv, hsome _ h⟩
set_option maxRecDepth 100000 in
theorem paths7_ok {r T q : Nat} {l : St} {k : Str} {Q : Sl → Int → AH → Prop} (hr : r < 64) (hr0 : r ≠ 0) (hr6 : r ≠ 6) (hq : q < 64) (hqr : q ≠ r) (hq6 : q ≠ 6) (h : RefIs tag σ r T l) (hp : ∀ p ∈ l, ∃ ps, parts p.1 = some ps) (hl : l.length ≤ 4294967296)
    (hbad : parts k = none → ∀ tag' σ', StepS [0] ro tag σ tag' σ' → Q ⟨none, 0, 0⟩ 20 σ')
    (hQ : ∀ ps, parts k = some ps → ∀ s tag' σ', StepS [0, q] ro tag σ tag' σ' → Row tag' σ' q 9 s (((l.map (·.1)).filter fun x => isUnder k x).map Pa.vS) → Q s 0 σ') :
    c_ref07_Tree_Paths B ro (some ⟨T, 0, none⟩) (S k) σ Q := by
  refine ref07_Tree_Paths_ok fun hs => ?_
  unfold f_ref07_Tree_Paths
  refine rparts2_ok (tag := tag) 22 hs (fun hb sl tag2 σ2 st2 => ?_) fun ps hps sl tag2 σ2 st2 _ => ?_
  · rw [if_pos (by simp)]
    rw [L_S] at hb
    exact hbad hb tag2 σ2 (st2.s (by simp))
  rw [if_neg (by simp)]
  rw [L_S] at hps
  suffices ∀ m j s tag3 σ3, j + m = l.length → StepS [0, q] ro tag σ tag3 σ3 → Row tag3 σ3 q 9 s ((((l.take j).map (·.1)).filter fun x => isUnder k x).map Pa.vS) → lfpD (l5_ref07_Tree_Paths B ro (some ⟨T, 0, none⟩) (S k) Q) (s, (j : Int)) σ3 from
    this _ 0 _ tag2 σ2 (Nat.zero_add _) (st2.s (by simp)) (Row.nil q 9)
  intro m
  induction m with
  | zero =>
    intro j s tag3 σ3 hj st3 r3
    have h3 := (h.keepS st3 (by rw [Nat.mod_eq_of_lt hr]; simp; omega) (by simp; omega)).m st3.sep
    obtain ⟨s0, e1, e2⟩ := h3.len
    refine lfpD.intro ?_
    unfold l5_ref07_Tree_Paths
    simp only
    refine ⟨_, rfl, s0, e1, ?_⟩
    rw [if_neg (by omega)]
    unfold j3_ref07_Tree_Paths
    rw [List.take_of_length_le (by omega)] at r3
    exact hQ ps hps s tag3 σ3 st3 r3
  | succ m ih =>
    intro j s tag3 σ3 hj st3 r3
    have hjl : j < l.length := by omega
    have h3 := (h.keepS st3 (by rw [Nat.mod_eq_of_lt hr]; simp; omega) (by simp; omega)).m st3.sep
    obtain ⟨s0, b, d, e1, e2, e3, e4⟩ := h3.row (List.getElem?_eq_getElem hjl)
    have etk : (l.take (j + 1)).map (·.1) = (l.take j).map (·.1) ++ [l[j].1] := by
      rw [List.take_add_one, List.getElem?_eq_getElem hjl, List.map_append]; rfl
    have hnl : (((l.take j).map (·.1)).filter fun x => isUnder k x).length ≤ j := by
      refine Nat.le_trans (List.length_filter_le _ _) ?_
      rw [List.length_map, List.length_take]; omega
    refine lfpD.intro ?_
    unfold l5_ref07_Tree_Paths
    simp only
    refine ⟨_, rfl, s0, e1, ?_⟩
    rw [if_pos (by omega)]
    refine ⟨_, rfl, s0, e1, _, e3, by omega, by omega, S l[j].1, by have := e4 0 _ rfl; rwa [add_zero] at this, ?_⟩
    obtain ⟨qs, hqs⟩ := hp _ (List.getElem_mem hjl)
    have eu : under k l[j].1 = some (ps.isPrefixOf qs) := by unfold under; rw [hps, hqs]
    have ei : isUnder k l[j].1 = ps.isPrefixOf qs := by unfold isUnder; rw [eu]
    refine runder_ok (fun hn => by rw [L_S, L_S, eu] at hn; cases hn) fun x hx => ?_
    rw [L_S, L_S, eu] at hx
    obtain rfl := Option.some.inj hx
    by_cases c : ps.isPrefixOf qs = true
    · rw [if_pos c]
      refine ⟨_, rfl, s0, e1, _, e3, by omega, by omega, S l[j].1, by have := e4 0 _ rfl; rwa [add_zero] at this, ?_⟩
      refine nw_cells (tag := tag3) 0 st3.sep fun X tag4 σ4 st4 r4 => ?_
      have r34 := r3.keep (st4 []) (by simp)
      refine awp_append1 r34 (st4 []).sep Pa.t25 ty9 rfl rfl (Row.cell1 r4 (st4 []).sep) rfl (by rw [List.length_map]; omega) (by decide) fun s' tag5 σ5 st5 r5 => ?_
      refine ⟨s', rfl, ?_⟩
      unfold j10_ref07_Tree_Paths
      rw [Pa.inc j (by omega)]
      refine ih (j + 1) s' tag5 σ5 (by omega) (st3.trans (((st4 []).s (by simp)).trans (st5.s (by simp [Nat.mod_eq_of_lt hq])))) ?_
      rw [etk, List.filter_append, List.filter_cons_of_pos (by rw [ei]; exact c), List.filter_nil, List.map_append]
      exact r5
    · rw [if_neg c]
      unfold j10_ref07_Tree_Paths
      rw [Pa.inc j (by omega)]
      refine ih (j + 1) s tag3 σ3 (by omega) st3 ?_
      rw [etk, List.filter_append, List.filter_cons_of_neg (by rw [ei]; exact c), List.filter_nil, List.append_nil]
      exact r3
/-- two lists of texts that are the same -/
theorem sameTexts_ok {a b : Sl} {l : List Str} {Q : Bool → AH → Prop} (ha : SL.Read ro σ a (l.map Pa.vS)) (hb : SL.Read ro σ b (l.map Pa.vS)) (hl : l.length ≤ 4611686018427387903) (hQ : Q true σ) : c_ref02_SameTexts B ro a b σ Q := by
  refine ref02_SameTexts_ok fun hs => ?_
  unfold f_ref02_SameTexts
  obtain ⟨a1, a2, a3⟩ := ha
  obtain ⟨b1, b2, b3⟩ := hb
  rw [List.length_map] at a1 b1
  rw [if_neg (by omega)]
  suffices ∀ m j, j + m = l.length → lfpD (l2_ref02_SameTexts B ro a b Q) (j : Int) σ from this _ 0 (Nat.zero_add _)
  intro m
  induction m with
  | zero =>
    intro j hj
    refine lfpD.intro ?_
    unfold l2_ref02_SameTexts
    rw [if_neg (by omega)]
    unfold j1_ref02_SameTexts
    exact hQ
  | succ m ih =>
    intro j hj
    have hjl : j < l.length := by omega
    obtain ⟨p, hp⟩ : ∃ p, a.a = some p := by
      cases e : a.a with
      | none => have := a2 e; simp at this; rw [this] at hjl; simp at hjl
      | some p => exact ⟨p, rfl⟩
    obtain ⟨q, hq⟩ : ∃ p, b.a = some p := by
      cases e : b.a with
      | none => have := b2 e; simp at this; rw [this] at hjl; simp at hjl
      | some p => exact ⟨p, rfl⟩
    refine lfpD.intro ?_
    unfold l2_ref02_SameTexts
    rw [if_pos (by omega)]
    have hv : (l.map Pa.vS)[j]? = some (Pa.vS l[j]) := by rw [List.getElem?_map, List.getElem?_eq_getElem hjl]; rfl
    refine ⟨p, hp, by omega, by omega, q, hq, by omega, by omega, S l[j], by rw [Int.toNat_natCast, Nat.mul_one]; exact a3 p hp j _ hv, S l[j], by rw [Int.toNat_natCast, Nat.mul_one]; exact b3 q hq j _ hv, ?_⟩
    rw [if_neg (by simp), Pa.inc j (by omega)]
    exact ih (j + 1) (by omega)
end Go.Proofs.YthfpmipeejjogaaGreatDoor.Zt

/- The nodes of owners: the tree's list and the document's. -/
namespace Go.Proofs.YthfpmipeejjogaaGreatDoor.Zt
open Go Go.Proofs.YthfpmipeejjogaaGreatDoor.SL Go.Proofs.YthfpmipeejjogaaGreatDoor.G Go.Proofs.YthfpmipeejjogaaGreatDoor.Pa
set_option linter.unusedSimpArgs false
set_option linter.unusedVariables false
variable {B : World} {ro σ σ' : AH} {tag tag' : Nat → Nat}

theorem contains_ok {s : Sl} {ws : List Int} {n : Int} {Q : Bool → AH → Prop} (h : SL.Read ro σ s (ws.map vI)) (hl : ws.length ≤ 4611686018427387903) (hQ : Q (decide (n ∈ ws)) σ) : c_slices_Contains_int_int B ro s n σ Q := by
  refine slices_Contains_int_int_ok fun _ => ?_
  unfold f_slices_Contains_int_int
  refine slices_Index_int_int_ok fun _ => ?_
  unfold f_slices_Index_int_int
  obtain ⟨a1, a2, a3⟩ := h
  rw [List.length_map] at a1
  suffices ∀ m j, j + m = ws.length → (∀ i, i < j → ws[i]? ≠ some n) → lfpD (l2_slices_Index_int_int B ro s n fun x7_1 σ => Q (decide (0 ≤ x7_1)) σ) (j : Int) σ from this _ 0 (Nat.zero_add _) fun i h => absurd h (Nat.not_lt_zero _)
  intro m
  induction m with
  | zero =>
    intro j hj hno
    refine lfpD.intro ?_
    unfold l2_slices_Index_int_int
    rw [if_neg (by omega)]
    unfold j1_slices_Index_int_int
    rw [decide_eq_false (fun hm => ?_)] at hQ
    · exact hQ
    · obtain ⟨i, hi, e⟩ := List.getElem_of_mem hm
      exact hno i (by omega) (by rw [List.getElem?_eq_getElem hi, e])
  | succ m ih =>
    intro j hj hno
    have hjl : j < ws.length := by omega
    obtain ⟨p, hp⟩ : ∃ p, s.a = some p := by
      cases e : s.a with
      | none => have := a2 e; simp at this; rw [this] at hjl; simp at hjl
      | some p => exact ⟨p, rfl⟩
    refine lfpD.intro ?_
    unfold l2_slices_Index_int_int
    rw [if_pos (by omega)]
    refine ⟨p, hp, by omega, by omega, ws[j], by rw [Int.toNat_natCast, Nat.mul_one]; exact a3 p hp j _ (by rw [List.getElem?_map, List.getElem?_eq_getElem hjl]; rfl), ?_⟩
    by_cases c : n = ws[j]
    · rw [if_pos c]
      rw [decide_eq_true (by rw [c]; exact List.getElem_mem hjl)] at hQ
      rw [decide_eq_true (by omega)]; exact hQ
    · rw [if_neg c, Pa.inc j (by omega)]
      refine ih (j + 1) (by omega) fun i hi => ?_
      rcases Nat.lt_or_ge i j with h | h
      · exact hno i h
      · obtain rfl : i = j := by omega
        rw [List.getElem?_eq_getElem hjl]
        exact fun e => c (Option.some.inj e).symm
/-- the paths that one of the owners has -/
def isOwned (st : St) (ws : List Int) (k : Str) : Bool := match st.lookup k with
  | some n => decide (n.own ≠ 0 ∧ n.own ∈ ws)
  | none => false
set_option maxRecDepth 100000 in
theorem owned_ok {r T q : Nat} {st : St} {a1 : Sl} {ws : List Int} {Q : Sl → AH → Prop} (hr : r < 64) (hr0 : r ≠ 0) (hq : q < 64) (hqr : q ≠ r) (hq6 : q ≠ 6) (h : TreeIs tag σ r T st) (hs : ∀ p ∈ st, p.1.length ≤ 128) (hn : st.length ≤ 4294967296) (hw : SL.Read ro (fun _ => none) a1 (ws.map vI)) (hwl : ws.length ≤ 4611686018427387903)
    (hQ : ∀ (s : Sl) (tag' : Nat → Nat) (σ' : AH) (ks : List Str), StepS [0, q] ro tag σ tag' σ' → ks.Perm (st.map (·.1)) → ks.Pairwise (· ≤ ·) → Row tag' σ' q 9 s ((ks.filter fun k => isOwned st ws k).map Pa.vS) → Q s σ') : c_ztree_Tree_Owned B ro (some ⟨T, 0, none⟩) a1 σ Q := by
  obtain ⟨M, bs, hA⟩ := h
  refine ztree_Tree_Owned_ok fun hsep => ?_
  unfold f_ztree_Tree_Owned
  refine paths_ok (q := q + 64) hA hs (by omega) fun s tag2 σ2 ks st2 hpm hsrt hr2 => ?_
  have hln : s.len = ks.length := by rw [hr2.len, List.length_map]
  have hkl : ks.length = st.length := by rw [hpm.length_eq, List.length_map]
  suffices ∀ m j (so : Sl) tag3 σ3, j + m = ks.length → Step [q] ro tag2 σ2 tag3 σ3 → Row tag3 σ3 q 9 so (((ks.take j).filter fun k => isOwned st ws k).map Pa.vS) → lfpD (l4_ztree_Tree_Owned B ro (some ⟨T, 0, none⟩) a1 s Q) (so, (j : Int)) σ3 from
    this _ 0 ⟨none, 0, 0⟩ tag2 σ2 (Nat.zero_add _) (Step.refl (st2 []).sep) (Row.nil q 9)
  intro m
  induction m with
  | zero =>
    intro j so tag3 σ3 hj st3 hso
    refine lfpD.intro ?_
    unfold l4_ztree_Tree_Owned
    simp only
    rw [if_neg (by omega)]
    unfold j1_ztree_Tree_Owned
    rw [List.take_of_length_le (by omega)] at hso
    exact hQ so tag3 σ3 ks (((st2 []).s (by simp)).trans (st3.s (by simp [Nat.mod_eq_of_lt hq]))) hpm hsrt hso
  | succ m ih =>
    intro j so tag3 σ3 hj st3 hso
    have hjl : j < ks.length := by omega
    have hs3 := hr2.keep st3 (by simp)
    obtain ⟨pp, hpp, _, hget⟩ := Row.sget hs3 st3.sep hjl
    have hA3 := (hA.keep (st2 []) (by simp)).keep st3 (by simp; omega)
    have etk : ks.take (j + 1) = ks.take j ++ [ks[j]] := by rw [List.take_add_one, List.getElem?_eq_getElem hjl]; rfl
    have hnl : ((ks.take j).filter fun x => isOwned st ws x).length ≤ j := by
      refine Nat.le_trans (List.length_filter_le _ _) ?_
      rw [List.length_take]; omega
    refine lfpD.intro ?_
    unfold l4_ztree_Tree_Owned
    simp only
    rw [if_pos (by omega)]
    refine ⟨pp, hpp, by omega, by omega, S ks[j], hget j hjl, _, rfl, _, Row.cell1 hA3.cell st3.sep, ?_⟩
    refine awp_lookup_str hA3.map st3.sep u126 u9 ty129 ?_
    rcases kv_lookup st bs ks[j] hA.len with ⟨a, e⟩ | ⟨i, b, n, a1', a2', a3', e⟩
    · exact absurd (hpm.mem_iff.1 (List.getElem_mem hjl)) (lookup_none a)
    rw [e]
    obtain ⟨ds, hnd, _⟩ := hA3.nodes i b _ a1' a2'
    obtain ⟨pb, hpb, hgb⟩ := hnd.ptr st3.sep (by simp)
    cases hpb
    refine ⟨some ⟨b, 0, none⟩, rfl, _, rfl, n.own, hgb 2 _ rfl, ?_⟩
    have hio : isOwned st ws ks[j] = decide (n.own ≠ 0 ∧ n.own ∈ ws) := by unfold isOwned; rw [a3']
    have go : ∀ x : Bool, x = isOwned st ws ks[j] → j16_ztree_Tree_Owned B ro (some ⟨T, 0, none⟩) a1 so s (j : Int) (S ks[j]) Q (lfpD (l4_ztree_Tree_Owned B ro (some ⟨T, 0, none⟩) a1 s Q)) x σ3 := fun x hx => by
      unfold j16_ztree_Tree_Owned
      cases x with
      | true =>
        rw [if_pos rfl]
        refine nw_cells (tag := tag3) 0 st3.sep fun X tag4 σ4 st4 r4 => ?_
        refine awp_append1 (hso.keep (st4 []) (by simp)) (st4 []).sep Pa.t25 ty9 rfl rfl (Row.cell1 r4 (st4 []).sep) rfl (by rw [List.length_map]; omega) (by decide) fun s' tag5 σ5 st5 r5 => ?_
        refine ⟨s', rfl, ?_⟩
        unfold j7_ztree_Tree_Owned
        rw [Pa.inc j (by omega)]
        refine ih (j + 1) s' tag5 σ5 (by omega) (st3.trans ((st4 _).trans st5)) ?_
        rw [etk, List.filter_append, List.filter_cons_of_pos hx.symm, List.filter_nil, List.map_append]
        exact r5
      | false =>
        rw [if_neg (by simp)]
        unfold j7_ztree_Tree_Owned
        rw [Pa.inc j (by omega)]
        refine ih (j + 1) so tag3 σ3 (by omega) st3 ?_
        rw [etk, List.filter_append, List.filter_cons_of_neg (by rw [← hx]; simp), List.filter_nil, List.append_nil]
        exact hso
    by_cases c0 : n.own = 0
    · rw [if_neg (by simpa using c0)]
      exact go false (by rw [hio]; simp [c0])
    · rw [if_pos c0]
      refine contains_ok hw.keep hwl ?_
      exact go _ (by rw [hio]; simp [c0])
end Go.Proofs.YthfpmipeejjogaaGreatDoor.Zt

/- The document's tree: Owned. -/
namespace Go.Proofs.YthfpmipeejjogaaGreatDoor.Zt
open Go Go.Proofs.YthfpmipeejjogaaGreatDoor.SL Go.Proofs.YthfpmipeejjogaaGreatDoor.G Go.Proofs.YthfpmipeejjogaaGreatDoor.Pa
set_option linter.unusedSimpArgs false
set_option linter.unusedVariables false
variable {B : World} {ro σ σ' : AH} {tag tag' : Nat → Nat}

set_option maxRecDepth 100000 in
theorem owned7_in {T q : Nat} {l : St} {a1 : Sl} {ws : List Int} {Q : Sl → AH → Prop} (hq : q < 64) (hq6 : q ≠ 6) (h : ∀ tag' σ', StepS [0, q] ro tag σ tag' σ' → RefM ro σ' T l) (hk : (l.map (·.1)).Nodup) (hl : l.length ≤ 4294967296) (hw : SL.Read ro (fun _ => none) a1 (ws.map vI)) (hwl : ws.length ≤ 4611686018427387903)
    (hQ : ∀ s tag' σ', StepS [0, q] ro tag σ tag' σ' → Row tag' σ' q 9 s (((l.map (·.1)).filter fun k => isOwned l ws k).map Pa.vS) → Q s σ') :
    c_ref07_Tree_Owned B ro (some ⟨T, 0, none⟩) a1 σ Q := by
  refine ref07_Tree_Owned_ok fun hs => ?_
  unfold f_ref07_Tree_Owned
  have hwlen : a1.len = ws.length := by rw [hw.1, List.length_map]
  suffices ∀ m j s tag3 σ3, j + m = l.length → StepS [0, q] ro tag σ tag3 σ3 → Row tag3 σ3 q 9 s ((((l.take j).map (·.1)).filter fun k => isOwned l ws k).map Pa.vS) → lfpD (l3_ref07_Tree_Owned B ro (some ⟨T, 0, none⟩) a1 Q) (s, (j : Int)) σ3 from
    this _ 0 _ tag σ (Nat.zero_add _) (StepS.refl hs) (Row.nil q 9)
  intro m
  induction m with
  | zero =>
    intro j s tag3 σ3 hj st3 r3
    have h3 := h tag3 σ3 st3
    obtain ⟨s0, e1, e2⟩ := h3.len
    refine lfpD.intro ?_
    unfold l3_ref07_Tree_Owned
    simp only
    refine ⟨_, rfl, s0, e1, ?_⟩
    rw [if_neg (by omega)]
    unfold j1_ref07_Tree_Owned
    rw [List.take_of_length_le (by omega)] at r3
    exact hQ s tag3 σ3 st3 r3
  | succ m ih =>
    intro j s tag3 σ3 hj st3 r3
    have hjl : j < l.length := by omega
    have h3 := h tag3 σ3 st3
    obtain ⟨s0, b, d, e1, e2, e3, e4⟩ := h3.row (List.getElem?_eq_getElem hjl)
    have etk : (l.take (j + 1)).map (·.1) = (l.take j).map (·.1) ++ [l[j].1] := by
      rw [List.take_add_one, List.getElem?_eq_getElem hjl, List.map_append]; rfl
    have hnl : (((l.take j).map (·.1)).filter fun k => isOwned l ws k).length ≤ j := by
      refine Nat.le_trans (List.length_filter_le _ _) ?_
      rw [List.length_map, List.length_take]; omega
    have hlk : l.lookup l[j].1 = some l[j].2 := (lookup_iff hk).2 (List.getElem_mem hjl)
    have hio : isOwned l ws l[j].1 = decide (l[j].2.own ≠ 0 ∧ l[j].2.own ∈ ws) := by unfold isOwned; rw [hlk]
    refine lfpD.intro ?_
    unfold l3_ref07_Tree_Owned
    simp only
    refine ⟨_, rfl, s0, e1, ?_⟩
    rw [if_pos (by omega)]
    -- the row's owner among the owners
    suffices ∀ m' i, i + m' = ws.length → (∀ i', i' < i → l[j].2.own ≠ 0 → ws[i']? ≠ some l[j].2.own) → lfpD (l10_ref07_Tree_Owned B ro (some ⟨T, 0, none⟩) a1 (j : Int) Q (lfpD (l3_ref07_Tree_Owned B ro (some ⟨T, 0, none⟩) a1 Q))) (s, (i : Int)) σ3 from
      this _ 0 (Nat.zero_add _) fun i h => absurd h (Nat.not_lt_zero _)
    intro m'
    induction m' with
    | zero =>
      intro i hi hno
      refine lfpD.intro ?_
      unfold l10_ref07_Tree_Owned
      simp only
      rw [if_neg (by omega)]
      unfold j8_ref07_Tree_Owned
      rw [Pa.inc j (by omega)]
      refine ih (j + 1) s tag3 σ3 (by omega) st3 ?_
      have : isOwned l ws l[j].1 = false := by
        rw [hio, decide_eq_false_iff_not]
        rintro ⟨h0, hm⟩
        obtain ⟨i', hi', e⟩ := List.getElem_of_mem hm
        exact hno i' (by omega) h0 (by rw [List.getElem?_eq_getElem hi', e])
      rw [etk, List.filter_append, List.filter_cons_of_neg (by rw [this]; simp), List.filter_nil, List.append_nil]
      exact r3
    | succ m' ih' =>
      intro i hi hno
      have hil : i < ws.length := by omega
      refine lfpD.intro ?_
      unfold l10_ref07_Tree_Owned
      simp only
      rw [if_pos (by omega)]
      refine ⟨_, rfl, s0, e1, _, e3, by omega, by omega, l[j].2.own, e4 4 _ rfl, ?_⟩
      have skip : (l[j].2.own ≠ 0 → ws[i]? ≠ some l[j].2.own) → j17_ref07_Tree_Owned B ro (some ⟨T, 0, none⟩) a1 s (j : Int) (i : Int) Q (lfpD (l3_ref07_Tree_Owned B ro (some ⟨T, 0, none⟩) a1 Q)) (lfpD (l10_ref07_Tree_Owned B ro (some ⟨T, 0, none⟩) a1 (j : Int) Q (lfpD (l3_ref07_Tree_Owned B ro (some ⟨T, 0, none⟩) a1 Q)))) false σ3 := fun hne => by
        unfold j17_ref07_Tree_Owned
        rw [if_neg (by simp), Pa.inc i (by omega)]
        refine ih' (i + 1) (by omega) fun i' hi' h0 => ?_
        rcases Nat.lt_or_ge i' i with h | h
        · exact hno i' h h0
        · obtain rfl : i' = i := by omega
          exact hne h0
      by_cases c0 : l[j].2.own = 0
      · rw [if_neg (by simpa using c0)]
        exact skip fun h => absurd c0 h
      rw [if_pos c0]
      obtain ⟨p, hp⟩ : ∃ p, a1.a = some p := by
        cases e : a1.a with
        | none => have := hw.2.1 e; simp at this; rw [this] at hil; simp at hil
        | some p => exact ⟨p, rfl⟩
      refine ⟨p, hp, by omega, by omega, ws[i], by rw [Int.toNat_natCast, Nat.mul_one]; exact hw.keep.2.2 p hp i _ (by rw [List.getElem?_map, List.getElem?_eq_getElem hil]; rfl), ?_⟩
      by_cases c1 : l[j].2.own = ws[i]
      · rw [decide_eq_true c1]
        unfold j17_ref07_Tree_Owned
        rw [if_pos rfl]
        refine ⟨_, rfl, s0, e1, _, e3, by omega, by omega, S l[j].1, by have := e4 0 _ rfl; rwa [add_zero] at this, ?_⟩
        refine nw_cells (tag := tag3) 0 st3.sep fun X tag4 σ4 st4 r4 => ?_
        have r34 := r3.keep (st4 []) (by simp)
        refine awp_append1 r34 (st4 []).sep Pa.t25 ty9 rfl rfl (Row.cell1 r4 (st4 []).sep) rfl (by rw [List.length_map]; omega) (by decide) fun s' tag5 σ5 st5 r5 => ?_
        refine ⟨s', rfl, ?_⟩
        unfold j8_ref07_Tree_Owned
        rw [Pa.inc j (by omega)]
        refine ih (j + 1) s' tag5 σ5 (by omega) (st3.trans (((st4 []).s (by simp)).trans (st5.s (by simp [Nat.mod_eq_of_lt hq])))) ?_
        have : isOwned l ws l[j].1 = true := by
          rw [hio, decide_eq_true_eq]
          exact ⟨c0, by rw [c1]; exact List.getElem_mem hil⟩
        rw [etk, List.filter_append, List.filter_cons_of_pos this, List.filter_nil, List.map_append]
        exact r5
      · rw [decide_eq_false c1]
        exact skip fun _ e => c1 (by rw [List.getElem?_eq_getElem hil] at e; exact (Option.some.inj e).symm)
end Go.Proofs.YthfpmipeejjogaaGreatDoor.Zt

/- The document's bytes: Put, Join, Blob. -/
namespace Go.Proofs.YthfpmipeejjogaaGreatDoor.SL
open Go
variable {ro σ σ' σ1 : AH} {tag tag' tag1 : Nat → Nat}
/-- what was made anew in role 1, all else of role 0: as it stands beside any roles -/
theorem fresh_step {x : Nat} (hx : x ≠ 0) (st : Step [x] ro (fun _ => 0) σ tag1 σ1) (tag : Nat → Nat) (y : Nat) :
    ∃ tag', (∀ R, Step R ro tag σ tag' σ1) ∧ ∀ e s l, Row tag1 σ1 x e s l → Row tag' σ1 y e s l := by
  refine ⟨fun c => if (σ c).isSome then tag c else y, fun R => ⟨fun b o hb _ => ⟨by simp [hb], ?_⟩, fun b o hb => ⟨by simp [hb], o, ?_⟩, st.sep⟩, fun e s l h => ?_⟩
  · exact (st.keep b o hb (by simp; omega)).2
  · exact (st.keep b o hb (by simp; omega)).2
  · rcases h with h | ⟨b, cs, ha, ht, hb, hx'⟩
    · exact .inl h
    · refine .inr ⟨b, cs, ha, ?_, hb, hx'⟩
      cases e : σ b with
      | none => simp [e]
      | some o =>
        have := (st.old b o e).1
        rw [ht] at this; exact absurd this hx
theorem Read.fresh {x : Nat} {s : Sl} {l : List Value} (hx : x ≠ 0) (h : Read ro σ s l) (st : Step [x] ro (fun _ => 0) σ tag1 σ1) : Read ro σ1 s l := by
  obtain ⟨tg, k, _⟩ := fresh_step hx st (fun _ => 0) 0
  exact h.step (k [])
end Go.Proofs.YthfpmipeejjogaaGreatDoor.SL
namespace Go.Proofs.YthfpmipeejjogaaGreatDoor.Zt
open Go Go.Proofs.YthfpmipeejjogaaGreatDoor.SL Go.Proofs.YthfpmipeejjogaaGreatDoor.G Go.Proofs.YthfpmipeejjogaaGreatDoor.Pa Go.Proofs.YthfpmipeejjogaaGreatDoor.Wi
set_option linter.unusedSimpArgs false
set_option linter.unusedVariables false
variable {B : World} {ro σ σ' : AH} {tag tag' : Nat → Nat}

set_option maxRecDepth 100000 in
theorem rput_ok {x : Int} {Q : Sl → AH → Prop} (h0 : 0 ≤ x) (hx : x ≤ 4611686018427387903) (hQ : ∀ s tag' σ', (∀ R, Step R ro tag σ tag' σ') → Row tag' σ' 6 5 s ((vput x.toNat).map vU) → Q s σ') : c_ref01_Put B ro x σ Q := by
  refine ref01_Put_ok fun hs => ?_
  unfold f_ref01_Put
  refine nw_cells (tag := fun _ => 0) 1 hs fun b tag1 σ1 st1 r1 => ?_
  have fin : ∀ s tag2 σ2, Step [1] ro (fun _ => 0) σ tag2 σ2 → Row tag2 σ2 1 5 s ((vput x.toNat).map vU) → Q s σ2 := fun s tag2 σ2 st2 r2 => by
    obtain ⟨tg, k1, k2⟩ := fresh_step (by decide) st2 tag 6
    exact hQ s tg σ2 k1 (k2 _ _ _ r2)
  suffices ∀ (m : Nat) (n : Nat) (acc : Str) (s : Sl) tag2 σ2, n < 128 ^ (m + 1) → n ≤ 4611686018427387903 → acc.length + m ≤ 20 → acc ++ vput n = vput x.toNat → Step [1] ro (fun _ => 0) σ tag2 σ2 → Row tag2 σ2 1 5 s (acc.map vU) → lfpD (l7_ref01_Put B ro Q) ((n : Int), s) σ2 by
    have := this 10 x.toNat [] _ tag1 σ1 (by omega) (by omega) (by simp) rfl (st1 _) r1
    rwa [Int.toNat_of_nonneg h0] at this
  intro m
  induction m with
  | zero =>
    intro n acc s tag2 σ2 hn hn2 hl he st2 r2
    refine lfpD.intro ?_
    unfold l7_ref01_Put
    simp only
    rw [if_neg (by omega)]
    unfold j2_ref01_Put
    refine nw_cells (tag := tag2) 0 st2.sep fun c tag3 σ3 st3 r3 => ?_
    refine awp_append1 (r2.keep (st3 []) (by simp)) (st3 []).sep u30 ty5 rfl rfl (Row.cell1 r3 (st3 []).sep) rfl (by rw [List.length_map]; omega) (by decide) fun s' tag4 σ4 st4 r4 => ?_
    refine ⟨s', rfl, fin s' tag4 σ4 (st2.trans ((st3 _).trans st4)) ?_⟩
    rw [← he]
    unfold vput
    rw [if_pos (by omega), List.map_append]
    have : IntKind.u8.wrap (n : Int) = ((UInt8.ofNat n).toNat : Int) := by
      rw [u8_of n (by omega)]
      simp [IntKind.wrap, IntKind.signed, IntKind.bits]; omega
    rw [this] at r4
    exact r4
  | succ m ih =>
    intro n acc s tag2 σ2 hn hn2 hl he st2 r2
    refine lfpD.intro ?_
    unfold l7_ref01_Put
    simp only
    by_cases c : 128 ≤ n
    · rw [if_pos (by omega)]
      refine nw_cells (tag := tag2) 0 st2.sep fun c' tag3 σ3 st3 r3 => ?_
      refine awp_append1 (r2.keep (st3 []) (by simp)) (st3 []).sep u30 ty5 rfl rfl (Row.cell1 r3 (st3 []).sep) rfl (by rw [List.length_map]; omega) (by decide) fun s' tag4 σ4 st4 r4 => ?_
      refine ⟨s', rfl, ?_⟩
      have e1 : IntKind.i64.wrap (Int.tdiv (n : Int) 128) = ((n / 128 : Nat) : Int) := by
        rw [Int.tdiv_eq_ediv_of_nonneg (by omega), SL.w64_eq (by omega) (by omega)]; omega
      rw [e1]
      have e2 : IntKind.u8.wrap (IntKind.i64.wrap (128 + (Int.tmod (n : Int) 128))) = ((UInt8.ofNat (n % 128 + 128)).toNat : Int) := by
        rw [u8_of _ (by omega), Int.tmod_eq_emod_of_nonneg (by omega), SL.w64_eq (by omega) (by omega)]
        simp [IntKind.wrap, IntKind.signed, IntKind.bits]; omega
      rw [e2] at r4
      refine ih (n / 128) (acc ++ [UInt8.ofNat (n % 128 + 128)]) s' tag4 σ4 ?_ (by omega) (by simp; omega) ?_ (st2.trans ((st3 _).trans st4)) (by rw [List.map_append]; exact r4)
      · rw [Nat.pow_succ] at hn
        exact Nat.div_lt_of_lt_mul (by omega)
      · rw [← he]
        conv => rhs; unfold vput
        rw [if_neg (by omega), List.append_assoc]; rfl
    · rw [if_neg (by omega)]
      unfold j2_ref01_Put
      refine nw_cells (tag := tag2) 0 st2.sep fun c tag3 σ3 st3 r3 => ?_
      refine awp_append1 (r2.keep (st3 []) (by simp)) (st3 []).sep u30 ty5 rfl rfl (Row.cell1 r3 (st3 []).sep) rfl (by rw [List.length_map]; omega) (by decide) fun s' tag4 σ4 st4 r4 => ?_
      refine ⟨s', rfl, fin s' tag4 σ4 (st2.trans ((st3 _).trans st4)) ?_⟩
      rw [← he]
      unfold vput
      rw [if_pos (by omega), List.map_append]
      have : IntKind.u8.wrap (n : Int) = ((UInt8.ofNat n).toNat : Int) := by
        rw [u8_of n (by omega)]
        simp [IntKind.wrap, IntKind.signed, IntKind.bits]; omega
      rw [this] at r4
      exact r4
set_option maxRecDepth 100000 in
theorem rjoin_ok {a0 : Sl} {ss : List Sl} {ls : List Str} {Q : Sl → AH → Prop} (h : SL.Read ro σ a0 (ss.map Sl.v)) (hl : ls.length = ss.length) (hd : ∀ (i : Nat) (s : Sl) (l : Str), ss[i]? = some s → ls[i]? = some l → SL.Read ro σ s (l.map vU)) (hn : ls.flatten.length ≤ 140737488355328) (hs1 : ss.length ≤ 1000)
    (hQ : ∀ s tag' σ', (∀ R, Step R ro tag σ tag' σ') → Row tag' σ' 6 5 s (ls.flatten.map vU) → Q s σ') : c_ref01_Join B ro a0 σ Q := by
  refine ref01_Join_ok fun hs => ?_
  unfold f_ref01_Join
  refine nw_cells (tag := fun _ => 0) 1 hs fun b tag1 σ1 st1 r1 => ?_
  have ha : a0.len = ss.length := by rw [h.1, List.length_map]
  suffices ∀ (m j : Nat) (s : Sl) tag2 σ2, j + m = ss.length → Step [1] ro (fun _ => 0) σ tag2 σ2 → Row tag2 σ2 1 5 s ((ls.take j).flatten.map vU) → lfpD (l4_ref01_Join B ro a0 Q) (s, (j : Int)) σ2 from
    this _ 0 _ tag1 σ1 (Nat.zero_add _) (st1 _) r1
  intro m
  induction m with
  | zero =>
    intro j s tag2 σ2 hj st2 r2
    refine lfpD.intro ?_
    unfold l4_ref01_Join
    simp only
    rw [if_neg (by omega)]
    unfold j2_ref01_Join
    rw [List.take_of_length_le (by omega)] at r2
    obtain ⟨tg, k1, k2⟩ := fresh_step (by decide) st2 tag 6
    exact hQ s tg σ2 k1 (k2 _ _ _ r2)
  | succ m ih =>
    intro j s tag2 σ2 hj st2 r2
    have hjs : j < ss.length := by omega
    have hjl : j < ls.length := by omega
    have h2 := h.fresh (by decide) st2
    have hd2 := (hd j _ _ (List.getElem?_eq_getElem hjs) (List.getElem?_eq_getElem hjl)).fresh (by decide) st2
    obtain ⟨p, hp⟩ : ∃ p, a0.a = some p := by
      cases e : a0.a with
      | none => have := h.2.1 e; simp at this; rw [this] at hjs; simp at hjs
      | some p => exact ⟨p, rfl⟩
    have hcell := h2.2.2 p hp j (Sl.v ss[j]) (by rw [List.getElem?_map, List.getElem?_eq_getElem hjs]; rfl)
    have etk : (ls.take (j + 1)).flatten = (ls.take j).flatten ++ ls[j] := by
      rw [List.take_add_one, List.getElem?_eq_getElem hjl, List.flatten_append]; simp
    have hlen : (ls.take (j + 1)).flatten.length ≤ ls.flatten.length := by
      conv => rhs; rw [← List.take_append_drop (j + 1) ls, List.flatten_append, List.length_append]
      omega
    rw [etk, List.length_append] at hlen
    refine lfpD.intro ?_
    unfold l4_ref01_Join
    simp only
    rw [if_pos (by omega)]
    refine ⟨p, hp, by omega, by omega, ss[j], by rw [Int.toNat_natCast, Nat.mul_one]; exact hcell, ?_⟩
    refine awp_appendN r2 st2.sep hd2 u30 ty5 rfl (by simp [storable]) (by rw [List.length_map, List.length_map]; omega) (by decide) fun s' tag3 σ3 st3 r3 => ?_
    refine ⟨s', rfl, ?_⟩
    rw [Pa.inc j (by omega)]
    refine ih (j + 1) s' tag3 σ3 (by omega) (st2.trans (st3 _ (.inr (by simp)))) ?_
    rw [etk, List.map_append]; exact r3
theorem rblobp_ok {a0 : Sl} {d : Str} {Q : Sl → AH → Prop} (h : SL.Read ro σ a0 (d.map vU)) (hl : d.length ≤ 70368744177664) (hQ : ∀ s tag' σ', (∀ R, Step R ro tag σ tag' σ') → Row tag' σ' 6 5 s ((blob d).map vU) → Q s σ') : c_ref01_Blob B ro a0 σ Q := by
  refine ref01_Blob_ok fun hs => ?_
  unfold f_ref01_Blob
  have ha : a0.len = d.length := by rw [h.1, List.length_map]
  refine rput_ok (tag := tag) (by omega) (by omega) fun s1 tag1 σ1 st1 r1 => ?_
  rw [ha, Int.toNat_natCast] at r1
  refine nw_cells (tag := tag1) 0 (st1 []).sep fun b tag2 σ2 st2 r2 => ?_
  have hv := (vput_len 8 d.length (by omega)).2
  refine rjoin_ok (tag := tag2) (ss := [s1, a0]) (ls := [vput d.length, d]) (r2.read (st2 []).sep) rfl (fun i s l hs' hl' => ?_) (by simp; omega) (by simp) fun s tag3 σ3 st3 r3 => ?_
  · rcases i with _ | _ | i
    · cases hs'; cases hl'; exact (r1.keep (st2 []) (by simp)).read (st2 []).sep
    · cases hs'; cases hl'; exact (h.step (st1 [])).step (st2 [])
    · cases hs'
  · refine hQ s tag3 σ3 (fun R => (st1 R).trans ((st2 R).trans (st3 R))) ?_
    have : [vput d.length, d].flatten = blob d := by unfold blob; simp
    rw [this] at r3; exact r3
end Go.Proofs.YthfpmipeejjogaaGreatDoor.Zt

/- The document's tree: its bytes. -/
namespace Go.Proofs.YthfpmipeejjogaaGreatDoor.Zt
open Go Go.Proofs.YthfpmipeejjogaaGreatDoor.SL Go.Proofs.YthfpmipeejjogaaGreatDoor.G Go.Proofs.YthfpmipeejjogaaGreatDoor.Pa Go.Proofs.YthfpmipeejjogaaGreatDoor.Wi
set_option linter.unusedSimpArgs false
set_option linter.unusedVariables false
variable {B : World} {ro σ σ' : AH} {tag tag' : Nat → Nat}

theorem upd_upd (σ : AH) (b : Nat) (x y : Obj) : upd (upd σ b x) b y = upd σ b y := by
  funext c; unfold upd; split <;> rfl
theorem awp_s2b {l : Str} {K : Value → AH → Prop} (hs : SL.Sep ro σ) (hK : ∀ s tag' σ', (∀ R, Step R ro tag σ tag' σ') → SL.Read ro σ' s (l.map vU) → K (Sl.v s) σ') : awp Tryz.prog ro (convert 9 30 (.string (S l))) K σ := by
  unfold convert
  simp only [bind_def]
  rw [awp_underlying u9, awp_underlying u30]
  simp only
  rw [awp_underlying u5'']
  simp only
  unfold Conv.stringToBytes
  simp only [bind_def]
  refine awp_choose rfl fun n => ?_
  have hsz : (S l).size = l.length := by rw [← L_len, L_S]
  have hcut : (S l).size ≤ (Question.appendCap (S l).size 0 5).cut n := by simp only [Question.cut]; omega
  generalize (Question.appendCap (S l).size 0 5).cut n = N at hcut
  show ∀ b, ro b = none → σ b = none → awp Tryz.prog ro (Sem.bind (markStringish ⟨b, 0, none⟩) fun _ => Sem.pure (Value.slice (some ⟨b, 0, none⟩) (S l).size N)) K (upd σ b _)
  intro b hro hb
  unfold markStringish
  show ∃ o, rd ro (upd σ b _) b = some o ∧ _
  refine ⟨_, by unfold rd; rw [hro]; exact upd_same _ _ _, ?_⟩
  show (1 : Nat) ≠ 0 ∧ ∃ o, upd σ b _ b = some o ∧ _
  refine ⟨by decide, _, upd_same _ _ _, ?_⟩
  rw [upd_upd]
  refine hK ⟨some ⟨b, 0, none⟩, (S l).size, N⟩ (setTag tag b 6) _ (fun _ => Step.fresh hs hro hb) ⟨by simp [hsz], (fun h => by cases h), fun p hp i v hv => ?_⟩
  cases hp
  have hi : i < l.length := by
    rcases Nat.lt_or_ge i l.length with h | h
    · exact h
    · rw [List.getElem?_eq_none (by simpa using h)] at hv; cases hv
  rw [add_add, Nat.zero_add]
  unfold acell rd
  rw [show ro (⟨b, i, none⟩ : Addr).block = none from hro]
  simp only [upd_same]
  rw [← hv]
  show (Array.map (fun b => Value.int IntKind.u8 (b.toNat : Int)) (S l).data ++ Array.replicate (N - (S l).size) (Value.int IntKind.u8 0))[i]? = _
  rw [Array.getElem?_append_left (by simp [S]; omega)]
  simp [S, vU]
end Go.Proofs.YthfpmipeejjogaaGreatDoor.Zt

/- The document's tree: Encode. -/
namespace Go.Proofs.YthfpmipeejjogaaGreatDoor.Zt
open Go Go.Proofs.YthfpmipeejjogaaGreatDoor.SL Go.Proofs.YthfpmipeejjogaaGreatDoor.G Go.Proofs.YthfpmipeejjogaaGreatDoor.Pa Go.Proofs.YthfpmipeejjogaaGreatDoor.Wi
set_option linter.unusedSimpArgs false
set_option linter.unusedVariables false
variable {B : World} {ro σ σ' : AH} {tag tag' : Nat → Nat}

set_option maxRecDepth 100000 in
theorem encode7_in {T : Nat} {l : St} {Q : Sl → AH → Prop} (h : ∀ tag' σ', StepS [0] ro tag σ tag' σ' → RefM ro σ' T l) (hl : l.length ≤ 4294967296) (hok : ∀ p ∈ l, p.1.length ≤ 128 ∧ p.2.data.length ≤ 256 ∧ numsOk p.2 = true)
    (hQ : ∀ s tag' σ', StepS [0] ro tag σ tag' σ' → Row tag' σ' 6 5 s ((encL l).map vU) → Q s σ') : c_ref07_Tree_Encode B ro (some ⟨T, 0, none⟩) σ Q := by
  refine ref07_Tree_Encode_ok fun hs => ?_
  unfold f_ref07_Tree_Encode
  refine nw_cells (tag := tag) 6 hs fun x6 tag1 σ1 st1 r1 => ?_
  suffices ∀ m j s tag3 σ3, j + m = l.length → StepS [0] ro tag σ tag3 σ3 → Row tag3 σ3 6 5 s ((encL (l.take j)).map vU) → lfpD (l4_ref07_Tree_Encode B ro (some ⟨T, 0, none⟩) Q) (s, (j : Int)) σ3 from
    this _ 0 _ tag1 σ1 (Nat.zero_add _) ((st1 []).s (by simp)) r1
  intro m
  induction m with
  | zero =>
    intro j s tag3 σ3 hj st3 r3
    have h3 := h tag3 σ3 st3
    obtain ⟨s0, e1, e2⟩ := h3.len
    refine lfpD.intro ?_
    unfold l4_ref07_Tree_Encode
    simp only
    refine ⟨_, rfl, s0, e1, ?_⟩
    rw [if_neg (by omega)]
    unfold j2_ref07_Tree_Encode
    rw [List.take_of_length_le (by omega)] at r3
    exact hQ s tag3 σ3 st3 r3
  | succ m ih =>
    intro j s tag3 σ3 hj st3 r3
    have hjl : j < l.length := by omega
    have hs3 := st3.sep
    have hgl := List.getElem?_eq_getElem hjl
    obtain ⟨s0, hT, hln, hrow⟩ := h tag3 σ3 st3
    obtain ⟨b, d, ha, hcell, hdr⟩ := hrow j _ hgl
    obtain ⟨o1, o2, o3⟩ := hok _ (List.getElem_mem hjl)
    have etk : l.take (j + 1) = l.take j ++ [l[j]] := by rw [List.take_add_one, hgl]; rfl
    have eenc : encL (l.take (j + 1)) = encL (l.take j) ++ encN l[j] := by rw [etk]; unfold encL; rw [List.flatMap_append, List.flatMap_cons, List.flatMap_nil, List.append_nil]
    have hel := encL_len (l.take (j + 1)) fun p hp => hok p (List.mem_of_mem_take hp)
    rw [eenc, List.length_append, List.length_take] at hel
    generalize l[j] = p at hcell hdr o1 o2 o3 etk eenc hel
    unfold numsOk rightN at o3
    simp only [Bool.and_eq_true, decide_eq_true_eq] at o3
    obtain ⟨⟨⟨v0, v1⟩, c0, c1⟩, w0, w1⟩ := o3
    refine lfpD.intro ?_
    unfold l4_ref07_Tree_Encode
    simp only
    refine ⟨_, rfl, s0, hT, ?_⟩
    rw [if_pos (by omega)]
    refine ⟨_, rfl, s0, hT, _, ha, by omega, by omega, S p.1, d, p.2.ver, p.2.ctr, p.2.own, cellsAt_of 0 fun i v hv => by
      rw [Int.toNat_natCast, add_add, add_add, Nat.zero_add, Nat.zero_add]; exact hcell i v hv, ?_⟩
    refine nw_st (tag := tag3) 0 hs3 rfl (by simp [storable, Sl.v]) fun X tag4 σ4 st4 r4 => ?_
    have hs4 := (st4 []).sep
    have r34 := r3.keep (st4 []) (by simp)
    have d4 := hdr.step (st4 [])
    obtain ⟨tX, oX, hX⟩ := r4.tagOf
    refine lent_block X ?_
    have hsA : SL.Sep (join ro (SL.one σ4 X)) (SL.del σ4 X) := hs4.lent
    have cX : ∀ τ i v, (nodeV p d)[i]? = some v → acell (join ro (SL.one σ4 X)) τ ((⟨X, 0, none⟩ : Addr).add i) = some v := fun τ i v hv => by
      have := r4.lend hs4 (τ := τ) hv
      rwa [Nat.mul_one] at this
    have rA := r34.del tX (by decide)
    have dA := d4.lent X
    refine ⟨d, cX _ 1 _ rfl, p.2.ver, cX _ 2 _ rfl, p.2.ctr, cX _ 3 _ rfl, p.2.own, cX _ 4 _ rfl, S p.1, cX _ 0 _ rfl, ?_⟩
    refine awp_s2b (tag := tag4) hsA fun sp tag5 σ5 st5 h5 => ?_
    refine ⟨sp, rfl, ?_⟩
    refine rblobp_ok (tag := tag5) h5 (by omega) fun q1 tag6 σ6 st6 k1 => ?_
    refine rblobp_ok (tag := tag6) ((dA.step (st5 [])).step (st6 [])) (by omega) fun q2 tag7 σ7 st7 k2 => ?_
    refine rput_ok (tag := tag7) v0 v1 fun q3 tag8 σ8 st8 k3 => ?_
    refine rput_ok (tag := tag8) c0 c1 fun q4 tag9 σ9 st9 k4 => ?_
    refine rput_ok (tag := tag9) w0 w1 fun q5 tag10 σ10 st10 k5 => ?_
    refine nw_cells (tag := tag10) 0 (st10 []).sep fun Y tag11 σ11 st11 r11 => ?_
    have hs11 := (st11 []).sep
    have stq : ∀ R, Step R (join ro (SL.one σ4 X)) tag4 (SL.del σ4 X) tag11 σ11 := fun R => (st5 R).trans ((st6 R).trans ((st7 R).trans ((st8 R).trans ((st9 R).trans ((st10 R).trans (st11 R))))))
    have a1 := (((((k1.keep (st7 []) (by simp)).keep (st8 []) (by simp)).keep (st9 []) (by simp)).keep (st10 []) (by simp)).keep (st11 []) (by simp)).read hs11
    have a2 := ((((k2.keep (st8 []) (by simp)).keep (st9 []) (by simp)).keep (st10 []) (by simp)).keep (st11 []) (by simp)).read hs11
    have a3 := (((k3.keep (st9 []) (by simp)).keep (st10 []) (by simp)).keep (st11 []) (by simp)).read hs11
    have a4 := ((k4.keep (st10 []) (by simp)).keep (st11 []) (by simp)).read hs11
    have a5 := (k5.keep (st11 []) (by simp)).read hs11
    have a0 := (rA.keep (stq []) (by simp)).read hs11
    have efl : [encL (l.take j), blob p.1, blob p.2.data, vput p.2.ver.toNat, vput p.2.ctr.toNat, vput p.2.own.toNat].flatten = encL (l.take (j + 1)) := by
      rw [eenc]; unfold encN; simp
    refine rjoin_ok (tag := tag11) (ss := [s, q1, q2, q3, q4, q5]) (ls := [encL (l.take j), blob p.1, blob p.2.data, vput p.2.ver.toNat, vput p.2.ctr.toNat, vput p.2.own.toNat]) (r11.read hs11) rfl (fun i s l hs' hl' => ?_) (by rw [efl, eenc, List.length_append]; omega) (by simp) fun s' tag12 σ12 st12 r12 => ?_
    · rcases i with _ | _ | _ | _ | _ | _ | i
      · cases hs'; cases hl'; exact a0
      · cases hs'; cases hl'; exact a1
      · cases hs'; cases hl'; exact a2
      · cases hs'; cases hl'; exact a3
      · cases hs'; cases hl'; exact a4
      · cases hs'; cases hl'; exact a5
      · cases hs'
    intro hdis
    have stB := ((stq []).trans (st12 [])).back hs4 hdis ⟨_, hX⟩
    have r13 := r12.back (r' := tag4 X) hdis ⟨_, hX⟩
    rw [Pa.inc j (by omega)]
    rw [efl] at r13
    exact ih (j + 1) s' _ _ (by omega) (st3.trans (((st4 []).s (by simp)).trans (stB.s (by simp)))) r13
end Go.Proofs.YthfpmipeejjogaaGreatDoor.Zt

/- The tree and the document's tree are alike: reading one node of both. -/
namespace Go.Proofs.YthfpmipeejjogaaGreatDoor.Zt
open Go Go.Proofs.YthfpmipeejjogaaGreatDoor.SL Go.Proofs.YthfpmipeejjogaaGreatDoor.G Go.Proofs.YthfpmipeejjogaaGreatDoor.Pa Go.Proofs.YthfpmipeejjogaaGreatDoor.Wi
set_option linter.unusedSimpArgs false
set_option linter.unusedVariables false
variable {B : World} {ro σ σ' : AH} {tag tag' : Nat → Nat}

theorem fresh_role {tag1 : Nat → Nat} {σ1 : AH} (st : ∀ R, Step R ro (fun _ => 7) σ tag1 σ1) (tag : Nat → Nat) (q : Nat) :
    ∃ tag', (∀ R, Step R ro tag σ tag' σ1) ∧ ∀ e s l, Row tag1 σ1 6 e s l → Row tag' σ1 q e s l := by
  refine ⟨fun c => if (σ c).isSome then tag c else q, fun R => ⟨fun b o hb _ => ⟨by simp [hb], ((st []).keep b o hb (by simp)).2⟩, fun b o hb => ⟨by simp [hb], o, ((st []).keep b o hb (by simp)).2⟩, (st []).sep⟩, fun e s l h => ?_⟩
  rcases h with h | ⟨b, cs, ha, ht, hb, hx'⟩
  · exact .inl h
  · refine .inr ⟨b, cs, ha, ?_, hb, hx'⟩
    cases e : σ b with
    | none => simp [e]
    | some o =>
      have := ((st []).old b o e).1
      rw [ht] at this; cases this
theorem clone_okq (q : Nat) {s : Sl} {l : List Value} {Q : Sl → AH → Prop} (h : SL.Read ro σ s l) (hs : SL.Sep ro σ) (hl : l.length ≤ 140737488355328) (hv : ∀ v ∈ l, storable v = true) (hQ : ∀ s' tag' σ', (∀ R, Step R ro tag σ tag' σ') → Row tag' σ' q 5 s' l → Q s' σ') : c_bytes_Clone B ro s σ Q :=
  clone_ok (tag := fun _ => 7) h hs hl hv fun s' tag1 σ1 st r => by
    obtain ⟨tg, k1, k2⟩ := fresh_role st tag q
    exact hQ s' tg σ1 k1 (k2 _ _ _ r)
set_option maxRecDepth 100000 in
theorem get_okq (q : Nat) (hq0 : q ≠ 0) {r T M : Nat} {bs : List Nat} {st : St} {p : ByteArray} {Q : Sl → Int → Int → Int → Int → Int → AH → Prop} (g : Glob ro) (hr : r < 64) (hr6 : r ≠ 6) (hr0 : r ≠ 0) (h : TreeAt tag σ r T M bs st) (hdl : ∀ p n, st.lookup p = some n → n.data.length ≤ 256)
    (hbad : parts (L p) = none → ∀ tag' σ', StepC 0 ro tag σ tag' σ' → Q ⟨none, 0, 0⟩ 0 0 0 0 20 σ') (hmiss : ∀ ps, parts (L p) = some ps → st.lookup (L p) = none → ∀ tag' σ', StepC 0 ro tag σ tag' σ' → Q ⟨none, 0, 0⟩ 0 0 0 0 70 σ')
    (hhit : ∀ n, st.lookup (L p) = some n → ∀ s tag' σ', StepC 0 ro tag σ tag' σ' → Row tag' σ' q 5 s (n.data.map vU) → Q s n.ver n.ctr n.own n.kids 0 σ') : c_ztree_Tree_Get B ro (some ⟨T, 0, none⟩) p σ Q := by
  refine ztree_Tree_Get_ok fun hs => ?_
  unfold f_ztree_Tree_Get
  refine nw_cells (tag := tag) 0 hs fun x tag1 σ1 st1 r1 => ?_
  have hA := h.keep (st1 []) (by simp)
  have hs1 := (st1 []).sep
  have err : ∀ e : Int, (∀ tag' σ', StepC 0 ro tag σ tag' σ' → Q ⟨none, 0, 0⟩ 0 0 0 0 e σ') → stN ⟨x, 0, none⟩ (fun σ => ∃ (x5_4a : Int) (x5_4b : Int) (x5_4c : Int) (x5_4d : Int), cellsAt ro σ ⟨x, 0, none⟩ 0 [.int .i64 x5_4a, .int .i64 x5_4b, .int .i64 x5_4c, .int .i64 x5_4d] ∧ Q (⟨none, 0, 0⟩ : Sl) x5_4a x5_4b x5_4c x5_4d e σ) [.int .i64 0, .int .i64 0, .int .i64 0, .int .i64 0] 0 σ1 := by
    intro e he
    refine r1.stAll hs1 rfl (by simp [storable]) fun σ2 st2 r2 => ?_
    obtain ⟨qq, hqq, hg⟩ := r2.ptr st2.sep (by simp)
    cases hqq
    exact ⟨0, 0, 0, 0, cellsAt_of 0 fun j v hj => by have := hg j v hj; rwa [Nat.mul_one, ← Nat.zero_add j] at this, he tag1 σ2 (((st1 []).c (by simp)).trans (st2.c (by simp)))⟩
  refine find_ok g hA hs1 (fun hb => ?_) (fun ps hps hl => ?_) (fun ps i b n hps hb hp hl => ?_)
  · rw [if_pos (by decide)]
    exact err 20 (hbad hb)
  · rw [if_pos (by decide)]
    exact err 70 (hmiss ps hps hl)
  · rw [if_neg (by decide)]
    obtain ⟨ds, hn, hd⟩ := hA.nodes i b _ hb hp
    obtain ⟨ht0, hto⟩ := hn.tagOf
    refine lent_block b ?_
    have hs2 : SL.Sep (join ro (SL.one σ1 b)) (SL.del σ1 b) := hs1.lent
    refine ⟨_, rfl, _, rfl, n.ver, n.ctr, n.own, n.kids, cellsAt_of 0 fun j v hj => ?_, ds, hn.lend hs1 (i := 4) rfl, ?_⟩
    · rw [Nat.zero_add, ← Nat.mul_one j]
      have hj4 : j < 4 := by
        rcases Nat.lt_or_ge j 4 with h' | h'
        · exact h'
        · rw [List.getElem?_eq_none (by simpa using h')] at hj; cases hj
      refine hn.lend hs1 (i := j) ?_
      rw [← hj]
      rcases j with _ | _ | _ | _ | j
      · rfl
      · rfl
      · rfl
      · rfl
      · omega
    · have hd1 := hd.del (b := b) ht0 (by omega)
      have hx1 := r1.del (b := b) ht0 (by omega)
      refine clone_okq q (tag := tag1) (hd1.read hs2) hs2 ?_ (by simp [storable]) fun s' tag2 σ2 st2 r2 => ?_
      · have := hdl _ _ hl; simp; omega
      · have hx2 := hx1.keep (st2 []) (by simp)
        refine hx2.stAll (st2 []).sep rfl (by simp [storable]) fun σ3 st3 r3 => ?_
        intro hdj
        have stB := ((st2 [0]).trans st3).back hs1 hdj hto
        have r4 := r3.back (r' := tag1 b) hdj hto
        have r5 := (r2.keep st3 (by simpa using hq0)).back (r' := tag1 b) hdj hto
        obtain ⟨qq, hqq, hg⟩ := r4.ptr stB.sep (by simp)
        cases hqq
        refine ⟨n.ver, n.ctr, n.own, n.kids, cellsAt_of 0 fun j v hj => by have := hg j v hj; rwa [Nat.mul_one, ← Nat.zero_add j] at this, ?_⟩
        exact hhit n hl s' _ _ (((st1 []).c (by simp)).trans (stB.c (by simp))) r5
end Go.Proofs.YthfpmipeejjogaaGreatDoor.Zt

/- The tree and the document's tree are alike: sizes, owners, bytes. -/
namespace Go.Proofs.YthfpmipeejjogaaGreatDoor.Zt
open Go Go.Proofs.YthfpmipeejjogaaGreatDoor.SL Go.Proofs.YthfpmipeejjogaaGreatDoor.G Go.Proofs.YthfpmipeejjogaaGreatDoor.Pa Go.Proofs.YthfpmipeejjogaaGreatDoor.Wi
set_option linter.unusedSimpArgs false
set_option linter.unusedVariables false
variable {B : World} {ro σ σ' : AH} {tag tag' : Nat → Nat}

theorem RowW.del {r r' : Nat} {e : TypeId} {w : Nat} {s : Sl} {l : List (List Value)} {b : Nat} (h : RowW tag σ r e w s l) (hb : tag b = r') (hr : r ≠ r') : RowW tag (SL.del σ b) r e w s l := by
  rcases h with h | ⟨c, cs, ha, ht, hs, hx⟩
  · exact .inl h
  · refine .inr ⟨c, cs, ha, ht, ?_, hx⟩
    have : c ≠ b := fun e => hr (by rw [← ht, e, hb])
    unfold SL.del; rw [if_neg this]; exact hs
/-- the document's tree while its block is lent -/
theorem RefIs.lentM {C : List Nat} {r T : Nat} {l : St} (h : RefIs tag σ r T l) (hs : SL.Sep ro σ) (hr : r < 64) (hr6 : r ≠ 6) (hC : r ∉ C) (h6 : 6 ∉ C) :
    ∀ tag' σ', StepS C (join ro (SL.one σ T)) tag (SL.del σ T) tag' σ' → RefM (join ro (SL.one σ T)) σ' T l := by
  intro tag' σ' st
  obtain ⟨s, ds, h1, h2, h3, h4⟩ := h
  have tT := h2.tagOf.1
  have hl := h3.len
  rw [List.length_zipWith, h1, Nat.min_self] at hl
  have h3' := RowW.keepS (RowW.del h3 tT (by omega)) st (by rw [show (r + 64) % 64 = r by omega]; exact hC)
  refine ⟨s, by have := h2.lend hs (τ := σ') (i := 0) rfl; rwa [Nat.zero_mul, add_zero] at this, hl, fun j p hj => ?_⟩
  have hjl : j < l.length := by
    rcases Nat.lt_or_ge j l.length with h | h
    · exact h
    · rw [List.getElem?_eq_none h] at hj; cases hj
  have hd : ds[j]? = some ds[j] := List.getElem?_eq_getElem (by omega)
  obtain ⟨b, ha, _, hc⟩ := RowW.get h3' st.sep (j := j) (x := nodeV p ds[j]) (by rw [List.getElem?_zipWith, hj, hd])
  exact ⟨b, ds[j], ha, hc, (((h4 j p _ hj hd).del tT (Ne.symm hr6)).keepS st h6).read st.sep⟩
theorem isOwned_srt {st : St} (hk : (st.map (·.1)).Nodup) (ws : List Int) (k : Str) : isOwned (srt st) ws k = isOwned st ws k := by
  unfold isOwned; rw [lookup_perm (srt_perm st).symm hk]
set_option maxRecDepth 100000 in
theorem alike_head {T U : Nat} {st : St} {a2 a3 : Sl} {ws : List Int} {Q : Bool → AH → Prop} (g : Glob ro) (hT : TreeIs tag σ 10 T st) (hU : RefIs tag σ 11 U (srt st)) (hi : Inv3 st) (hn : st.length ≤ 4294967296) (hw : SL.Read ro (fun _ => none) a3 (ws.map vI)) (hwl : ws.length ≤ 4611686018427387903)
    (hQ : ∀ tag' σ', StepS [0, 1, 20, 21, 30] ro tag σ tag' σ' → j1_law07_alike B ro (some ⟨T, 0, none⟩) (some ⟨U, 0, none⟩) a2 Q false σ') :
    c_law07_alike B ro (some ⟨T, 0, none⟩) (some ⟨U, 0, none⟩) a2 a3 σ Q := by
  refine law07_alike_ok fun hs => ?_
  unfold f_law07_alike
  have hk := hi.inv.keys
  have hks := (srt_srt hk).nodup
  have hpl := (srt_perm st).length_eq
  refine lent_block U ?_
  have hsA : SL.Sep (join ro (SL.one σ U)) (SL.del σ U) := hs.lent
  obtain ⟨s, ds, g1, g2, g3, g4⟩ := id hU
  obtain ⟨tU, oU, hUo⟩ := g2.tagOf
  have hsl := g3.len
  rw [List.length_zipWith, g1, Nat.min_self] at hsl
  have hT1 := hT.del' tU (by decide) (by decide) (by decide) (by decide) (b := U)
  have hM := hU.lentM (C := [0, 1, 20, 21, 30]) hs (by decide) (by decide) (by decide) (by decide)
  refine ⟨_, rfl, s, by have := g2.lend hs (τ := fun _ => none) (i := 0) rfl; rwa [Nat.zero_mul, add_zero] at this, ?_⟩
  obtain ⟨M1, bs1, hA1⟩ := hT1
  refine size_ok hA1 ?_
  rw [if_neg (by rw [hsl, hpl]; simp)]
  have hsm := hi.inv.small
  refine owned_ok (tag := tag) (q := 20) (by decide) (by decide) (by decide) (by decide) (by decide) ⟨M1, bs1, hA1⟩ (fun p hp => (hsm p hp).1) hn hw.ro' hwl fun s1 tag1 σ1 ks st1 hpm hsr r1 => ?_
  have st1' : StepS [0, 1, 20, 21, 30] (join ro (SL.one σ U)) tag (SL.del σ U) tag1 σ1 := st1.mono (by decide)
  refine owned7_in (tag := tag1) (q := 21) (by decide) (by decide) (fun tag' σ' st' => hM tag' σ' (st1'.trans (st'.mono (by decide)))) hks (by rw [hpl]; exact hn) hw.ro' hwl fun s2 tag2 σ2 st2 r2 => ?_
  have st2' := st1'.trans (st2.mono (D := [0, 1, 20, 21, 30]) (by decide))
  have eks := srt_keys hk hpm hsr
  rw [eks] at r1
  have efl : (fun k => isOwned (srt st) ws k) = fun k => isOwned st ws k := by funext k; exact isOwned_srt hk ws k
  rw [efl] at r2
  refine sameTexts_ok ((r1.keepS st2 (by decide)).read st2.sep) (r2.read st2.sep) ?_ ?_
  · refine Nat.le_trans (List.length_filter_le _ _) ?_
    rw [List.length_map, hpl]; omega
  rw [if_neg (by simp)]
  have hT2 : TreeIs tag2 σ2 10 T st := TreeIs.keepS ⟨M1, bs1, hA1⟩ st2' (by decide) (by decide)
  obtain ⟨M2, bs2, hA2⟩ := hT2
  refine encode_ok (by decide) (by decide) (by decide) (by decide) (by decide) hA2 hsm hn fun s3 tag3 σ3 st3 r3 => ?_
  have st3' := st2'.trans (st3.s (C := [0, 1, 20, 21, 30]) (by decide))
  have h3p := inv3_perm (srt_perm st).symm hi
  refine encode7_in (tag := tag3) (fun tag' σ' st' => hM tag' σ' (st3'.trans (st'.mono (by decide)))) (by rw [hpl]; exact hn) (fun p hp => ?_) fun s4 tag4 σ4 st4 r4 => ?_
  · obtain ⟨k1, k2⟩ := h3p.inv.small p hp
    exact ⟨k1, k2, (h3p.nums _ _ ((lookup_iff h3p.inv.keys (k := p.1) (n := p.2)).2 hp)).1⟩
  rw [← encS_eq hi] at r4
  refine same_ok ((r3.keepS st4 (by decide)).read st4.sep) (r4.read st4.sep) ?_
  rw [decide_eq_true rfl]
  intro hdis
  have st4' := st3'.trans (st4.mono (D := [0, 1, 20, 21, 30]) (by decide))
  obtain ⟨tag5, st5, _⟩ := region_back hs ⟨_, hUo⟩ hdis st4'
  exact hQ tag5 _ st5
end Go.Proofs.YthfpmipeejjogaaGreatDoor.Zt
