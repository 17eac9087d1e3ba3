/- ZtD, ZtP, ZtQ, WiA, EnA, EnB, Mem3, Mem4 -/
import Derived.Test.YthfpmipeejjogaaGreatDoorXF
set_option maxRecDepth 100000
set_option maxHeartbeats 4000000
set_option linter.unusedVariables false
set_option linter.unusedSimpArgs false
open Go.IntKind (i64)
namespace Go.Proofs.YthfpmipeejjogaaGreatDoor
namespace Zt
open Go SL G Pa
variable {B : World} {ro σ σ' : AH} {tag tag' : Nat → Nat}
def delK : St → Str → St
 | [], _ => []
 | (k', n) :: r, k => if k = k' then r else (k', n) :: delK r k
def less (n : Nd) : Nd := { n with kids := i64.wrap (n.kids - 1) }
def remove (st : St) (p : Str) (v : Int) : St × Int :=
 if p = [47] ∨ parts p = none then (st, 20)
 else match st.lookup p with
  | none => (st, 70)
  | some n => if v ≠ -1 ∧ v ≠ n.ver then (st, 72) else if 0 < n.kids then (st, 73)
   else match parent p with
    | none => (st, 20)
    | some u => (delK (modN st u less) p, 0)
def setNd (d : Str) (n : Nd) : Nd := { n with ver := i64.wrap (n.ver + 1), data := d }
def setD (st : St) (p d : Str) (v : Int) : St × Int × Int :=
 if p = [47] ∨ parts p = none then (st, 0, 20)
 else if 256 < d.length then (st, 0, 75)
 else match st.lookup p with
  | none => (st, 0, 70)
  | some n => if v ≠ -1 ∧ v ≠ n.ver then (st, 0, 72) else (modN st p (setNd d), i64.wrap (n.ver + 1), 0)
theorem delK_idx : ∀ (st : St) (bs : List Nat) (i b : Nat) (q : Str) (n : Nd), bs.length = st.length → (st.map (·.1)).Nodup → bs[i]? = some b → st[i]? = some (q, n) →
  delK st q = st.eraseIdx i ∧ mdel (kv st bs) q = kv (st.eraseIdx i) (bs.eraseIdx i) := by
 intro st
 induction st with
 | nil => intro bs i b q n _ _ _ h; cases h
 | cons p st ih =>
  intro bs i b q n hl hk hb hp
  cases bs with
  | nil => simp at hl
  | cons c bs =>
   obtain ⟨p, m⟩ := p
   rw [List.map_cons, List.nodup_cons] at hk
   cases i with
   | zero =>
    cases hp
    exact ⟨by simp [delK], by simp [kv, mdel]⟩
   | succ i =>
    simp only [List.getElem?_cons_succ] at hb hp
    have hne : q ≠ p := fun e => hk.1 (by rw [← e]; exact List.mem_map.2 ⟨_, List.mem_of_getElem? hp, rfl⟩)
    obtain ⟨h1, h2⟩ := ih bs i b q n (by simpa using hl) hk.2 hb hp
    refine ⟨by simp [delK, hne, h1], ?_⟩
    simp only [List.eraseIdx_cons_succ]
    unfold kv mdel
    rw [if_neg hne, h2]
theorem eraseIdx_get {α : Type} (l : List α) (i j : Nat) : (l.eraseIdx i)[j]? = if j < i then l[j]? else l[j + 1]? := by
 rw [List.getElem?_eraseIdx]
theorem TreeAt.rem {r T M i b : Nat} {bs : List Nat} {st : St} {q : Str} {n : Nd} (h : TreeAt tag σ r T M bs st) (hr : r < 64) (hr6 : r ≠ 6) (hb : bs[i]? = some b) (hp : st[i]? = some (q, n)) (k : Step [r + 64] ro tag σ tag' σ')
  (hm : MapIs tag' σ' (r + 64) M (mdel (kv st bs) q)) : TreeAt tag' σ' r T M (bs.eraseIdx i) (delK st q) := by
 obtain ⟨e1, e2⟩ := delK_idx st bs i b q n h.len h.keys hb hp
 rw [e1]
 rw [e2] at hm
 refine ⟨List.Nodup.sublist ((List.eraseIdx_sublist ..).map _) h.keys, ?_, List.Nodup.sublist (List.eraseIdx_sublist ..) h.nd, h.cell.keep k, hm, fun j c p hc hp' => ?_⟩
 ·rw [List.length_eraseIdx, List.length_eraseIdx, h.len]
 ·rw [eraseIdx_get] at hc hp'
  by_cases hj : j < i
  ·rw [if_pos hj] at hc hp'
   exact (h.nodes j c p hc hp').keep k (by simp; omega) (by simp)
  ·rw [if_neg hj] at hc hp'
   exact (h.nodes (j + 1) c p hc hp').keep k (by simp; omega) (by simp)
theorem modN_get {st : St} {u : Str} {f : Nd → Nd} {i : Nat} {q : Str} {n : Nd} (h : st[i]? = some (q, n)) (hne : q ≠ u) : (modN st u f)[i]? = some (q, n) := by
 unfold modN
 rw [List.getElem?_map, h]
 simp [hne]
theorem parent_ne {p u : Str} (h : parent p = some u) : p ≠ u := by
 unfold parent at h
 cases hp : parts p with
 | none => rw [hp] at h; cases h
 | some ps =>
  rw [hp] at h
  simp only at h
  split at h
  ·cases h
  ·rename_i hn
   cases h
   obtain ⟨hl, hg⟩ := parts_iff.1 hp
   intro e
   have := mk_inj hg hg.up (by rw [← hl]; exact e)
   have h1 := congrArg List.length this
   have h2 := List.length_pos_iff.2 hn
   simp at h1; omega
theorem parent_some {p : Str} {ps : List Str} (h : parts p = some ps) (hne : p ≠ [47]) : ∃ u, parent p = some u := by
 unfold parent
 rw [h]
 simp only
 rw [if_neg]
 ·exact ⟨_, rfl⟩
 ·intro e; obtain ⟨hl, _⟩ := parts_iff.1 h; exact hne (by rw [hl, e]; rfl)
theorem deleteM_ok {r T M : Nat} {bs : List Nat} {st : St} {p : ByteArray} {v : Int} {Q : Int → AH → Prop} (g : Glob ro) (hr : r < 64) (hr6 : r ≠ 6) (hr0 : r ≠ 0) (hA : TreeAt tag σ r T M bs st)
  (hup : ∀ u n, parent (L p) = some u → st.lookup (L p) = some n → ∃ m, st.lookup u = some m)
  (hQ : ∀ tag' σ' bs', StepC r ro tag σ tag' σ' → TreeAt tag' σ' r T M bs' (remove st (L p) v).1 → Q (remove st (L p) v).2 σ') : c_ztree_Tree_Delete B ro (some ⟨T, 0, none⟩) p v σ Q := by
 refine ztree_Tree_Delete_ok fun hs => ?_
 unfold f_ztree_Tree_Delete
 have same : ∀ e : Int, remove st (L p) v = (st, e) → Q e σ := fun e he => by
  have := hQ tag σ bs (StepC.refl hs) (by rw [he]; exact hA)
  rw [he] at this; exact this
 have hgood : L p ≠ [47] → ∀ ps, parts (L p) = some ps → ¬ (L p = [47] ∨ parts (L p) = none) := fun h1 ps h2 h3 => by
  rcases h3 with h3 | h3
  ·exact h1 h3
  ·rw [h2] at h3; cases h3
 refine zcheck_ok g hA hs (fun hb => ?_) (fun hne ps hps hl => ?_) (fun hne ps n hps hl hv1 hv2 => ?_) (fun hne ps i b n hps hb hp hl hv => ?_)
 ·rw [if_pos (by decide)]
  exact same 20 (by unfold remove; rw [if_pos hb])
 ·rw [if_pos (by decide)]
  exact same 70 (by unfold remove; rw [if_neg (hgood hne ps hps), hl])
 ·rw [if_pos (by decide)]
  exact same 72 (by unfold remove; rw [if_neg (hgood hne ps hps), hl]; simp only; rw [if_pos ⟨hv1, hv2⟩])
 ·rw [if_neg (by decide)]
  have hre : remove st (L p) v = if 0 < n.kids then (st, (73 : Int)) else match parent (L p) with
    | none => (st, (20 : Int))
    | some u => (delK (modN st u less) (L p), (0 : Int)) := by
   unfold remove; rw [if_neg (hgood hne ps hps), hl]; simp only; rw [if_neg (by omega)]; all_goals (cases parent (L p) <;> rfl)
  obtain ⟨s, hn, hd⟩ := hA.nodes i b _ hb hp
  obtain ⟨q, hq, hg⟩ := hn.ptr hs (by simp)
  cases hq
  refine ⟨_, rfl, n.kids, hg 3 _ rfl, ?_⟩
  by_cases h1 : 0 < n.kids
  ·rw [if_pos h1]
   exact same 73 (by rw [hre, if_pos h1])
  ·rw [if_neg h1]
   rw [if_neg h1] at hre
   refine parent_ok g (fun hnone => ?_) (fun u hu => ?_)
   ·obtain ⟨u, hu⟩ := parent_some hps hne
    rw [hu] at hnone; cases hnone
   ·rw [hu] at hre
    simp only at hre
    obtain ⟨m, hm⟩ := hup u n hu hl
    refine ⟨_, rfl, _, Row.cell1 hA.cell hs, ?_⟩
    refine awp_lookup_str hA.map hs u126 u9 ty129 ?_
    rcases kv_lookup st bs u hA.len with ⟨a, e⟩ | ⟨j, c, m', c1, c2, c3, e⟩
    ·rw [hm] at a; cases a
    ·rw [e]
     refine ⟨some ⟨c, 0, none⟩, rfl, ?_⟩
     obtain ⟨s2, hn2, hd2⟩ := hA.nodes j c _ c1 c2
     obtain ⟨q2, hq2, hg2⟩ := hn2.ptr hs (by simp)
     cases hq2
     refine ⟨_, rfl, m'.kids, hg2 3 _ rfl, _, rfl, ?_⟩
     refine hn2.st (i := 3) hs rfl (by simp) rfl fun σ1 st1 r1 => ?_
     have hA1 := hA.write (n' := less m') hr hr6 c1 c2 st1 ⟨s2, r1, hd2.keep st1 (by simp; omega)⟩
     rw [← modN_set hA.keys c2 less] at hA1
     refine ⟨_, rfl, _, Row.cell1 hA1.cell st1.sep, ?_⟩
     rw [← S_L p]
     refine awp_delete_str hA1.map st1.sep u126 u9 fun σ2 st2 m2 => ⟨rfl, ?_⟩
     have hA2 := hA1.rem hr hr6 hb (modN_get hp (parent_ne hu)) st2 m2
     have hres := hQ tag σ2 _ ((st1.c (by simp; omega)).trans (st2.c (by simp; omega))) (by rw [hre]; exact hA2)
     rw [hre] at hres
     exact hres
theorem delete_ok {r T : Nat} {st : St} {p : ByteArray} {v : Int} {Q : Int → AH → Prop} (g : Glob ro) (hr : r < 64) (hr6 : r ≠ 6) (hr0 : r ≠ 0) (h : TreeIs tag σ r T st)
  (hup : ∀ u n, parent (L p) = some u → st.lookup (L p) = some n → ∃ m, st.lookup u = some m)
  (hQ : ∀ tag' σ', StepC r ro tag σ tag' σ' → TreeIs tag' σ' r T (remove st (L p) v).1 → Q (remove st (L p) v).2 σ') : c_ztree_Tree_Delete B ro (some ⟨T, 0, none⟩) p v σ Q := by
 obtain ⟨M, bs, hA⟩ := h
 exact deleteM_ok g hr hr6 hr0 hA hup fun tag' σ' bs' st h' => hQ tag' σ' st ⟨M, bs', h'⟩
theorem set_ok {r T : Nat} {st : St} {p : ByteArray} {s : Sl} {d : Str} {v : Int} {Q : Int → Int → AH → Prop} (g : Glob ro) (hr : r < 64) (hr6 : r ≠ 6) (hr0 : r ≠ 0) (h : TreeIs tag σ r T st) (hd : SL.Read ro σ s (d.map vU)) (hdl : d.length < 4611686018427387904)
  (hQ : ∀ tag' σ', StepC r ro tag σ tag' σ' → TreeIs tag' σ' r T (setD st (L p) d v).1 → Q (setD st (L p) d v).2.1 (setD st (L p) d v).2.2 σ') : c_ztree_Tree_Set B ro (some ⟨T, 0, none⟩) p s v σ Q := by
 refine ztree_Tree_Set_ok fun hs => ?_
 unfold f_ztree_Tree_Set
 have hsl : s.len = d.length := by rw [hd.1, List.length_map]
 have same : ∀ e : Int, setD st (L p) d v = (st, 0, e) → Q 0 e σ := fun e he => by
  have := hQ tag σ (StepC.refl hs) (by rw [he]; exact h)
  rw [he] at this; exact this
 by_cases h0 : p = ⟨#[47]⟩
 ·rw [if_pos h0]
  unfold j1_ztree_Tree_Set
  rw [if_pos rfl]
  exact same 20 (by unfold setD; rw [if_pos (.inl (by rw [h0]; rfl))])
 ·rw [if_neg h0]
  have hne : L p ≠ [47] := fun h => h0 (L_inj h)
  refine check_ok g ?_
  unfold j1_ztree_Tree_Set
  by_cases h1 : Pa.chk (L p) = 0
  ·rw [if_neg (by simpa using h1)]
   obtain ⟨ps, hps⟩ := chk_zero.1 h1
   have hgood : ¬ (L p = [47] ∨ parts (L p) = none) := fun h3 => by
    rcases h3 with h3 | h3
    ·exact hne h3
    ·rw [hps] at h3; cases h3
   by_cases h2 : 256 < (s.len : Int)
   ·rw [if_pos h2]
    exact same 75 (by unfold setD; rw [if_neg hgood, if_pos (by omega)])
   ·rw [if_neg h2]
    have h2' : ¬ 256 < d.length := by omega
    obtain ⟨M, bs, hA⟩ := h
    refine zcheck_ok g hA hs (fun hb => absurd hb hgood) (fun _ _ _ hl => ?_) (fun _ _ n _ hl hv1 hv2 => ?_) (fun _ _ i b n _ hb hp hl hv => ?_)
    ·rw [if_pos (by decide)]
     exact same 70 (by unfold setD; rw [if_neg hgood, if_neg h2', hl])
    ·rw [if_pos (by decide)]
     exact same 72 (by unfold setD; rw [if_neg hgood, if_neg h2', hl]; simp only; rw [if_pos ⟨hv1, hv2⟩])
    ·rw [if_neg (by decide)]
     have hre : setD st (L p) d v = (modN st (L p) (setNd d), i64.wrap (n.ver + 1), 0) := by
      unfold setD; rw [if_neg hgood, if_neg h2', hl]; simp only; rw [if_neg (by omega)]
     refine clone_ok (tag := tag) hd hs (by simp; omega) (by simp [storable]) fun s' tag1 σ1 st1 r1 => ?_
     have hA1 := hA.keep (st1 [])
     have hs1 := (st1 []).sep
     obtain ⟨ds, hn, hdd⟩ := hA1.nodes i b _ hb hp
     refine ⟨_, rfl, ?_⟩
     refine hn.st (i := 4) hs1 rfl (by simp) rfl fun σ2 st2 r2 => ?_
     obtain ⟨q, hq, hg⟩ := r2.ptr st2.sep (by simp)
     cases hq
     refine ⟨_, rfl, n.ver, hg 0 _ rfl, _, rfl, ?_⟩
     refine r2.st (i := 0) st2.sep rfl (by simp) rfl fun σ3 st3 r3 => ?_
     obtain ⟨q3, hq3, hg3⟩ := r3.ptr st3.sep (by simp)
     cases hq3
     refine ⟨_, rfl, _, hg3 0 _ rfl, ?_⟩
     have st23 := st2.trans st3
     have hA3 := hA1.write (n' := setNd d n) hr hr6 hb hp st23 ⟨s', r3, r1.keep st23 (by simp; omega)⟩
     rw [← modN_set hA.keys hp (setNd d)] at hA3
     have hres := hQ tag1 σ3 (((st1 []).c (by simp)).trans (st23.c (by simp; omega))) (by rw [hre]; exact ⟨M, _, hA3⟩)
     rw [hre] at hres
     exact hres
  ·rw [if_pos (by simpa using h1)]
   have e : parts (L p) = none := by
    cases h : parts (L p) with
    | none => rfl
    | some ps => exact absurd (chk_zero.2 ⟨ps, h⟩) h1
   exact same 20 (by unfold setD; rw [if_pos (.inr e)])
end Zt
namespace Zt
open Go SL Pa
def kc (ks : List Str) (u : Str) : Nat := ks.countP fun k => parent k = some u
theorem lookup_mod (st : St) (u : Str) (f : Nd → Nd) (k : Str) : (modN st u f).lookup k = if k = u then (st.lookup k).map f else st.lookup k := by
 induction st with
 | nil => simp [modN]
 | cons p st ih =>
  obtain ⟨p, n⟩ := p
  unfold modN at ih ⊢
  rw [List.map_cons]
  by_cases e : p = u
  ·subst e
   simp only [if_true]
   rw [List.lookup_cons, List.lookup_cons, ih]
   by_cases c : k = p
   ·subst c; simp
   ·rw [show (k == p) = false by simpa using c]
  ·simp only [e, if_false]
   rw [List.lookup_cons, List.lookup_cons, ih]
   by_cases c : k = p
   ·subst c; simp [e]
   ·rw [show (k == p) = false by simpa using c]
theorem lookup_app (st : St) (q : Str) (n : Nd) (k : Str) : (st ++ [(q, n)]).lookup k = match st.lookup k with | some m => some m | none => if k = q then some n else none := by
 induction st with
 | nil =>
  rw [List.nil_append, List.lookup_cons]
  by_cases c : k = q
  ·subst c; simp
  ·rw [show (k == q) = false by simpa using c]; simp [c]
 | cons p st ih =>
  obtain ⟨p, m⟩ := p
  rw [List.cons_append, List.lookup_cons, List.lookup_cons, ih]
  by_cases c : k = p
  ·subst c; simp
  ·rw [show (k == p) = false by simpa using c]
theorem lookup_notin {st : St} {k : Str} (h : k ∉ st.map (·.1)) : st.lookup k = none := by
 rw [List.lookup_eq_none_iff]
 intro p hp
 simp
 intro e
 exact h (List.mem_map.2 ⟨p, hp, e.symm⟩)
theorem lookup_del {st : St} (hk : (st.map (·.1)).Nodup) (q k : Str) : (delK st q).lookup k = if k = q then none else st.lookup k := by
 induction st with
 | nil => simp [delK]
 | cons p st ih =>
  obtain ⟨p, n⟩ := p
  rw [List.map_cons, List.nodup_cons] at hk
  unfold delK
  by_cases e : q = p
  ·subst e
   rw [if_pos rfl]
   by_cases c : k = q
   ·subst c; rw [if_pos rfl]; exact lookup_notin hk.1
   ·rw [if_neg c, List.lookup_cons, show (k == q) = false by simpa using c]
  ·rw [if_neg e, List.lookup_cons, List.lookup_cons, ih hk.2]
   by_cases c : k = p
   ·subst c; simp [show ¬ k = q from fun h => e h.symm]
   ·rw [show (k == p) = false by simpa using c]
theorem keys_mod (st : St) (u : Str) (f : Nd → Nd) : (modN st u f).map (·.1) = st.map (·.1) := by
 unfold modN; rw [List.map_map]
 refine List.map_congr_left fun p _ => ?_
 simp only [Function.comp]
 split <;> rfl
theorem keys_del {st : St} {q : Str} {n : Nd} (h : st.lookup q = some n) : ∃ a b, st.map (·.1) = a ++ q :: b ∧ (delK st q).map (·.1) = a ++ b := by
 induction st with
 | nil => cases h
 | cons p st ih =>
  obtain ⟨p, m⟩ := p
  unfold delK
  by_cases e : q = p
  ·subst e; exact ⟨[], st.map (·.1), rfl, by rw [if_pos rfl]; rfl⟩
  ·rw [List.lookup_cons, show (q == p) = false by simpa using e] at h
   obtain ⟨a, b, h1, h2⟩ := ih h
   exact ⟨p :: a, b, by rw [List.map_cons, h1]; rfl, by rw [if_neg e, List.map_cons, h2]; rfl⟩
theorem lookup_in {st : St} {k : Str} (h : k ∈ st.map (·.1)) : ∃ n, st.lookup k = some n := by
 cases e : st.lookup k with
 | some n => exact ⟨n, rfl⟩
 | none => exact absurd h (lookup_none e)
theorem in_lookup {st : St} {k : Str} {n : Nd} (h : st.lookup k = some n) : k ∈ st.map (·.1) := Classical.byContradiction fun hn => by
 rw [lookup_notin hn] at h; cases h
structure Inv (st : St) : Prop where
 keys : (st.map (·.1)).Nodup
 root : ∃ n, st.lookup [47] = some n
 path : ∀ k n, st.lookup k = some n → ∃ ps, parts k = some ps
 up : ∀ k n, st.lookup k = some n → k ≠ [47] → ∃ u m, parent k = some u ∧ st.lookup u = some m ∧ m.own = 0
 kids : ∀ k n, st.lookup k = some n → n.kids = (kc (st.map (·.1)) k : Nat)
 ctr : ∀ k n, st.lookup k = some n → n.kids ≤ n.ctr ∧ n.ctr ≤ 10000000000
 data : ∀ k n, st.lookup k = some n → n.data.length ≤ 256
theorem inv_new : Inv St.new := by
 have hl : ∀ k n, St.new.lookup k = some n → k = [47] ∧ n = ⟨0, 0, 0, 0, []⟩ := fun k n h => by
  unfold St.new at h
  rw [List.lookup_cons] at h
  by_cases c : k = [47]
  ·subst c; simp at h; exact ⟨rfl, h.symm⟩
  ·rw [show (k == [47]) = false by simpa using c] at h; cases h
 refine ⟨by simp [St.new], ⟨_, rfl⟩, fun k n h => ?_, fun k n h hne => absurd (hl k n h).1 hne, fun k n h => ?_, fun k n h => ?_, fun k n h => ?_⟩
 ·rw [(hl k n h).1]; exact ⟨[], rfl⟩
 ·obtain ⟨rfl, rfl⟩ := hl k n h
  decide
 ·rw [(hl k n h).2]; decide
 ·rw [(hl k n h).2]; decide
theorem tens_no (k n : Nat) : ∀ c ∈ tens k n, c ≠ 47 := by
 induction k generalizing n with
 | zero => intro c h; cases h
 | succ k ih =>
  intro c h
  rw [tens] at h
  rcases List.mem_append.1 h with h | h
  ·exact ih _ c h
  ·rw [List.mem_singleton] at h
   intro e
   have h1 := congrArg UInt8.toNat (h.symm.trans e)
   have : n % 10 < 10 := Nat.mod_lt _ (by omega)
   simp at h1
   omega
theorem suffix_parent {p q : Str} {n : Int} (h : suffix p n = some q) : ∃ ps, parts q = some ps ∧ parent q = parent p := by
 unfold suffix at h
 cases hp : parts p with
 | none => rw [hp] at h; cases h
 | some ps =>
  rw [hp] at h
  simp only at h
  split at h
  ·cases h
  ·rename_i hn
   split at h
   ·rename_i hs
    cases h
    obtain ⟨qs, hqs⟩ := Option.isSome_iff_exists.1 hs
    refine ⟨qs, hqs, ?_⟩
    obtain ⟨hl, hg⟩ := parts_iff.1 hp
    obtain ⟨hql, hqg⟩ := parts_iff.1 hqs
    have hne : ps ≠ [] := fun e => hn (.inl e)
    obtain ⟨zs, x, rfl⟩ : ∃ zs x, ps = zs ++ [x] := by
     rcases List.eq_nil_or_concat ps with e | ⟨zs, x, e⟩
     ·exact absurd e hne
     ·exact ⟨zs, x, by rw [e, List.concat_eq_append]⟩
    have e1 : p ++ digits n = mk (zs ++ [x ++ digits n]) := by
     rw [hl, mk_snoc, mk_snoc]; simp
    have hqn : qs ≠ [] := by
     intro e
     subst e
     have h1 := congrArg List.length hql
     rw [List.length_append] at h1
     have h2 : 1 ≤ p.length := by rw [hl]; exact mk_pos _
     have h3 : (digits n).length = 10 := tens_len 10 _
     simp [mk] at h1; omega
    have e2 : qs = zs ++ [x ++ digits n] := by
     have c1 : cut ((mk qs).drop 1) = qs := by unfold mk; rw [if_neg hqn]; exact cut_mk qs hqn fun y hy => name_no (hqg.ok y hy)
     have c2 : cut ((mk (zs ++ [x ++ digits n])).drop 1) = zs ++ [x ++ digits n] := by
      unfold mk; rw [if_neg (by simp)]
      refine cut_mk _ (by simp) fun y hy => ?_
      rcases List.mem_append.1 hy with h | h
      ·exact name_no (hg.ok y (by simp [h]))
      ·rw [List.mem_singleton] at h
       rw [h]
       intro hm
       rcases List.mem_append.1 hm with h' | h'
       ·exact name_no (hg.ok x (by simp)) h'
       ·exact tens_no _ _ 47 h' rfl
     rw [← c1, ← hql, e1, c2]
    unfold parent
    rw [hqs, hp, e2]
    simp
   ·cases h
theorem kc_app (a b : List Str) (u : Str) : kc (a ++ b) u = kc a u + kc b u := by unfold kc; rw [List.countP_append]
theorem kc_one (q u : Str) : kc [q] u = if parent q = some u then 1 else 0 := by unfold kc; simp [List.countP_cons]
theorem kc_pos {ks : List Str} {u : Str} (h : kc ks u ≠ 0) : ∃ k ∈ ks, parent k = some u := by
 have : 0 < kc ks u := by omega
 unfold kc at this
 rw [List.countP_pos_iff] at this
 obtain ⟨k, h1, h2⟩ := this
 exact ⟨k, h1, by simpa using h2⟩
theorem kc_in {ks : List Str} {u k : Str} (h : k ∈ ks) (hp : parent k = some u) : kc ks u ≠ 0 := by
 have : 0 < kc ks u := by
  unfold kc
  rw [List.countP_pos_iff]
  exact ⟨k, h, by simpa using hp⟩
 omega
theorem root_parent : parent [47] = none := rfl
theorem Inv.no_kids {st : St} (h : Inv st) {q : Str} (hq : st.lookup q = none) : kc (st.map (·.1)) q = 0 := by
 refine Classical.byContradiction fun hn => ?_
 obtain ⟨k, hk, hp⟩ := kc_pos hn
 obtain ⟨n, hl⟩ := lookup_in hk
 have hne : k ≠ [47] := fun e => by rw [e, root_parent] at hp; cases hp
 obtain ⟨u, m, h1, h2, _⟩ := h.up k n hl hne
 rw [hp] at h1
 cases h1
 rw [hq] at h2; cases h2
theorem parts_parent {q : Str} {u : Str} (h : parent q = some u) : ∃ ps, parts q = some ps := by
 unfold parent at h
 cases hp : parts q with
 | none => rw [hp] at h; cases h
 | some ps => exact ⟨ps, rfl⟩
theorem inv_add {st : St} {q u d : Str} {n : Nd} {o : Int} (h : Inv st) (hlen : st.length ≤ 4398046511104) (hu : st.lookup u = some n) (ho : n.own = 0) (hc : ¬ 9999999999 < n.ctr) (hq : st.lookup q = none) (hpq : parent q = some u) (hd : d.length ≤ 256) :
  Inv (modN (st ++ [(q, ⟨0, 0, o, 0, d⟩)]) u bump) := by
 have hqu : q ≠ u := fun e => by rw [e, hu] at hq; cases hq
 have hkids := h.kids u n hu
 have hctr := h.ctr u n hu
 have hle : kc (st.map (·.1)) u ≤ st.length := by unfold kc; exact Nat.le_trans List.countP_le_length (by simp)
 have lk : ∀ k, (modN (st ++ [(q, (⟨0, 0, o, 0, d⟩ : Nd))]) u bump).lookup k = if k = u then some (bump n) else if k = q then some ⟨0, 0, o, 0, d⟩ else st.lookup k := fun k => by
  rw [lookup_mod, lookup_app]
  by_cases e : k = u
  ·subst e; rw [if_pos rfl, if_pos rfl, hu]; rfl
  ·rw [if_neg e, if_neg e]
   by_cases e2 : k = q
   ·subst e2; rw [hq]
   ·rw [if_neg e2, if_neg e2]; cases st.lookup k <;> rfl
 have hb : bump n = { n with ctr := n.ctr + 1, kids := n.kids + 1 } := by
  unfold bump
  rw [SL.w64_eq (by omega) (by omega), SL.w64_eq (by omega) (by omega)]
 have hkeys : (modN (st ++ [(q, (⟨0, 0, o, 0, d⟩ : Nd))]) u bump).map (·.1) = st.map (·.1) ++ [q] := by rw [keys_mod, List.map_append]; rfl
 have hkc : ∀ k, kc ((modN (st ++ [(q, (⟨0, 0, o, 0, d⟩ : Nd))]) u bump).map (·.1)) k = kc (st.map (·.1)) k + if u = k then 1 else 0 := fun k => by
  rw [hkeys, kc_app, kc_one, hpq]
  simp
 have old : ∀ v m, st.lookup v = some m → ∃ m', (modN (st ++ [(q, (⟨0, 0, o, 0, d⟩ : Nd))]) u bump).lookup v = some m' ∧ m'.own = m.own := fun v m hv => by
  rw [lk]
  by_cases e : v = u
  ·subst e
   rw [hu] at hv; cases hv
   exact ⟨_, if_pos rfl, rfl⟩
  ·have e2 : v ≠ q := fun e => by rw [e, hq] at hv; cases hv
   exact ⟨m, by rw [if_neg e, if_neg e2]; exact hv, rfl⟩
 have cases3 : ∀ k m, (modN (st ++ [(q, (⟨0, 0, o, 0, d⟩ : Nd))]) u bump).lookup k = some m → (k = u ∧ m = bump n) ∨ (k = q ∧ k ≠ u ∧ m = ⟨0, 0, o, 0, d⟩) ∨ (k ≠ u ∧ k ≠ q ∧ st.lookup k = some m) := fun k m hk => by
  rw [lk] at hk
  by_cases e : k = u
  ·rw [if_pos e] at hk; exact .inl ⟨e, (Option.some.inj hk).symm⟩
  ·rw [if_neg e] at hk
   by_cases e2 : k = q
   ·rw [if_pos e2] at hk; exact .inr (.inl ⟨e2, e, (Option.some.inj hk).symm⟩)
   ·rw [if_neg e2] at hk; exact .inr (.inr ⟨e, e2, hk⟩)
 refine ⟨?_, ?_, fun k m hk => ?_, fun k m hk hne => ?_, fun k m hk => ?_, fun k m hk => ?_, fun k m hk => ?_⟩
 ·rw [hkeys, List.nodup_append]
  refine ⟨h.keys, by simp, ?_⟩
  intro x hx y hy
  simp at hy
  intro e
  exact lookup_none hq (by rw [← hy, ← e]; exact hx)
 ·obtain ⟨n0, h0⟩ := h.root
  obtain ⟨m', h1, _⟩ := old _ _ h0
  exact ⟨m', h1⟩
 ·rcases cases3 k m hk with ⟨rfl, _⟩ | ⟨rfl, _, _⟩ | ⟨_, _, h3⟩
  ·exact h.path _ n hu
  ·exact parts_parent hpq
  ·exact h.path k m h3
 ·have fin : ∀ v mm, parent k = some v → st.lookup v = some mm → mm.own = 0 → ∃ u' m', parent k = some u' ∧ (modN (st ++ [(q, (⟨0, 0, o, 0, d⟩ : Nd))]) u bump).lookup u' = some m' ∧ m'.own = 0 := fun v mm h1 h2 h3 => by
   obtain ⟨m', h4, h5⟩ := old v mm h2
   exact ⟨v, m', h1, h4, by rw [h5]; exact h3⟩
  rcases cases3 k m hk with ⟨rfl, _⟩ | ⟨rfl, _, _⟩ | ⟨_, _, h3⟩
  ·obtain ⟨v, mm, h1, h2, h3⟩ := h.up _ n hu hne
   exact fin v mm h1 h2 h3
  ·exact fin u n hpq hu ho
  ·obtain ⟨v, mm, h1, h2, h4⟩ := h.up k m h3 hne
   exact fin v mm h1 h2 h4
 ·rw [hkc]
  rcases cases3 k m hk with ⟨rfl, rfl⟩ | ⟨rfl, hne, rfl⟩ | ⟨h1, _, h3⟩
  ·rw [if_pos rfl, hb]; show n.kids + 1 = _; omega
  ·rw [if_neg (fun e => hne e.symm), h.no_kids hq]; rfl
  ·rw [if_neg (fun e => h1 e.symm)]; exact h.kids k m h3
 ·rcases cases3 k m hk with ⟨rfl, rfl⟩ | ⟨rfl, hne, rfl⟩ | ⟨h1, _, h3⟩
  ·rw [hb]; show n.kids + 1 ≤ n.ctr + 1 ∧ n.ctr + 1 ≤ _; omega
  ·exact ⟨Int.le_refl _, show (0 : Int) ≤ 10000000000 by decide⟩
  ·exact h.ctr k m h3
 ·rcases cases3 k m hk with ⟨rfl, rfl⟩ | ⟨rfl, hne, rfl⟩ | ⟨h1, _, h3⟩
  ·exact h.data _ n hu
  ·exact hd
  ·exact h.data k m h3
theorem create_len (st : St) (p d : Str) (o : Int) (seq : Bool) : (create st p d o seq).1.length ≤ st.length + 1 := by
 unfold create
 repeat' split
 all_goals first | exact Nat.le_succ _ | (simp [modN])
theorem inv_create {st : St} {p d : Str} {o : Int} {seq : Bool} (h : Inv st) (hlen : st.length ≤ 4398046511104) : Inv (create st p d o seq).1 := by
 unfold create
 cases hp : parent p with
 | none => exact h
 | some u =>
  simp only
  split
  ·exact h
  ·rename_i hd
   split
   ·exact h
   ·cases hu : st.lookup u with
    | none => exact h
    | some n =>
     simp only
     split
     ·exact h
     ·rename_i ho
      split
      ·exact h
      ·rename_i hc
       cases hq : (if seq = true then suffix p n.ctr else some p) with
       | none => exact h
       | some q =>
        simp only
        split
        ·exact h
        ·rename_i hs
         have hqn : st.lookup q = none := by
          cases e : st.lookup q with
          | none => rfl
          | some x => rw [e] at hs; exact absurd rfl hs
         have hpq : parent q = some u := by
          split at hq
          ·obtain ⟨_, _, e⟩ := suffix_parent hq
           rw [e]; exact hp
          ·cases hq; exact hp
         exact inv_add h hlen hu (by simpa using ho) hc hqn hpq (by omega)
theorem remove_len (st : St) (p : Str) (v : Int) : (remove st p v).1.length ≤ st.length := by
 have hdel : ∀ (s : St) q, (delK s q).length ≤ s.length := fun s q => by
  induction s with
  | nil => simp [delK]
  | cons x s ih =>
   obtain ⟨k, n⟩ := x
   unfold delK
   split
   ·simp
   ·simp; exact ih
 unfold remove
 repeat' split
 all_goals first | exact Nat.le_refl _ | (refine Nat.le_trans (hdel _ _) ?_; simp [modN])
theorem inv_remove {st : St} {p : Str} {v : Int} (h : Inv st) (hlen : st.length ≤ 4398046511104) : Inv (remove st p v).1 := by
 unfold remove
 split
 ·exact h
 ·rename_i hg
  cases hl : st.lookup p with
  | none => exact h
  | some n =>
   simp only
   split
   ·exact h
   ·split
    ·exact h
    ·rename_i hk0
     cases hpp : parent p with
     | none => exact h
     | some u =>
      simp only
      have hne : p ≠ [47] := fun e => hg (.inl e)
      obtain ⟨u', m, h1, hu, ho⟩ := h.up p n hl hne
      rw [hpp] at h1; cases h1
      have hpu := parent_ne hpp
      have hkn := h.kids p n hl
      have hz : kc (st.map (·.1)) p = 0 := by omega
      have hkm := h.kids u m hu
      have hcm := h.ctr u m hu
      have hin := in_lookup hl
      have hpos := kc_in hin hpp
      have hle : kc (st.map (·.1)) u ≤ st.length := by unfold kc; exact Nat.le_trans List.countP_le_length (by simp)
      have hb : less m = { m with kids := m.kids - 1 } := by
       unfold less; rw [SL.w64_eq (by omega) (by omega)]
      have hkM : ((modN st u less).map (·.1)).Nodup := by rw [keys_mod]; exact h.keys
      have lk : ∀ k, (delK (modN st u less) p).lookup k = if k = p then none else if k = u then some (less m) else st.lookup k := fun k => by
       rw [lookup_del hkM, lookup_mod]
       by_cases e : k = p
       ·rw [if_pos e, if_pos e]
       ·rw [if_neg e, if_neg e]
        by_cases e2 : k = u
        ·subst e2; rw [if_pos rfl, if_pos rfl, hu]; rfl
        ·rw [if_neg e2, if_neg e2]
      have hlM : (modN st u less).lookup p = some n := by rw [lookup_mod, if_neg hpu]; exact hl
      obtain ⟨a, b, k1, k2⟩ := keys_del hlM
      rw [keys_mod] at k1
      have hkc : ∀ k, kc (st.map (·.1)) k = kc ((delK (modN st u less) p).map (·.1)) k + if u = k then 1 else 0 := fun k => by
       rw [k1, k2, show a ++ p :: b = a ++ ([p] ++ b) from rfl, kc_app, kc_app, kc_app, kc_one, hpp]
       simp; omega
      have cases2 : ∀ k x, (delK (modN st u less) p).lookup k = some x → k ≠ p ∧ ((k = u ∧ x = less m) ∨ (k ≠ u ∧ st.lookup k = some x)) := fun k x hk => by
       rw [lk] at hk
       by_cases e : k = p
       ·rw [if_pos e] at hk; cases hk
       ·rw [if_neg e] at hk
        by_cases e2 : k = u
        ·rw [if_pos e2] at hk; exact ⟨e, .inl ⟨e2, (Option.some.inj hk).symm⟩⟩
        ·rw [if_neg e2] at hk; exact ⟨e, .inr ⟨e2, hk⟩⟩
      have old : ∀ v x, st.lookup v = some x → v ≠ p → ∃ x', (delK (modN st u less) p).lookup v = some x' ∧ x'.own = x.own := fun v x hv hvp => by
       rw [lk, if_neg hvp]
       by_cases e : v = u
       ·subst e
        rw [hu] at hv; cases hv
        exact ⟨_, if_pos rfl, rfl⟩
       ·exact ⟨x, by rw [if_neg e]; exact hv, rfl⟩
      refine ⟨?_, ?_, fun k x hk => ?_, fun k x hk hkn => ?_, fun k x hk => ?_, fun k x hk => ?_, fun k x hk => ?_⟩
      ·rw [k2]
       have := h.keys
       rw [k1] at this
       exact List.Nodup.sublist (List.Sublist.append_left (List.sublist_cons_self _ _) _) this
      ·obtain ⟨n0, h0⟩ := h.root
       obtain ⟨x', h1, _⟩ := old _ _ h0 (fun e => hne e.symm)
       exact ⟨x', h1⟩
      ·rcases cases2 k x hk with ⟨_, ⟨rfl, _⟩ | ⟨_, h3⟩⟩
       ·exact h.path _ m hu
       ·exact h.path k x h3
      ·have hkin : ∃ y, st.lookup k = some y := by
        rcases cases2 k x hk with ⟨_, ⟨rfl, _⟩ | ⟨_, h3⟩⟩
        ·exact ⟨m, hu⟩
        ·exact ⟨x, h3⟩
       obtain ⟨y, hy⟩ := hkin
       obtain ⟨w, mm, g1, g2, g3⟩ := h.up k y hy hkn
       have hwp : w ≠ p := fun e => kc_in (in_lookup hy) (by rw [g1, e]) hz
       obtain ⟨x', g4, g5⟩ := old w mm g2 hwp
       exact ⟨w, x', g1, g4, by rw [g5]; exact g3⟩
      ·have hkc' := hkc k
       rcases cases2 k x hk with ⟨_, ⟨rfl, rfl⟩ | ⟨h2, h3⟩⟩
       ·rw [if_pos rfl] at hkc'
        rw [hb]; show m.kids - 1 = _; omega
       ·rw [if_neg (fun e => h2 e.symm)] at hkc'
        have := h.kids k x h3
        omega
      ·rcases cases2 k x hk with ⟨_, ⟨rfl, rfl⟩ | ⟨h2, h3⟩⟩
       ·rw [hb]; show m.kids - 1 ≤ m.ctr ∧ m.ctr ≤ _; omega
       ·exact h.ctr k x h3
      ·rcases cases2 k x hk with ⟨_, ⟨rfl, rfl⟩ | ⟨h2, h3⟩⟩
       ·exact h.data _ m hu
       ·exact h.data k x h3
theorem setD_len (st : St) (p d : Str) (v : Int) : (setD st p d v).1.length = st.length := by
 unfold setD
 repeat' split
 all_goals first | rfl | simp [modN]
theorem inv_set {st : St} {p d : Str} {v : Int} (h : Inv st) : Inv (setD st p d v).1 := by
 unfold setD
 split
 ·exact h
 ·split
  ·exact h
  ·rename_i hd
   cases hl : st.lookup p with
   | none => exact h
   | some n =>
    simp only
    split
    ·exact h
    ·have lk : ∀ k x, (modN st p (setNd d)).lookup k = some x → ∃ y, st.lookup k = some y ∧ x.kids = y.kids ∧ x.ctr = y.ctr ∧ x.own = y.own ∧ x.data.length ≤ 256 := fun k x hk => by
      rw [lookup_mod] at hk
      by_cases e : k = p
      ·subst e
       rw [if_pos rfl, hl] at hk
       cases hk
       exact ⟨n, hl, rfl, rfl, rfl, by show d.length ≤ 256; omega⟩
      ·rw [if_neg e] at hk
       exact ⟨x, hk, rfl, rfl, rfl, h.data k x hk⟩
     have old : ∀ k y, st.lookup k = some y → ∃ x, (modN st p (setNd d)).lookup k = some x ∧ x.own = y.own := fun k y hk => by
      rw [lookup_mod]
      by_cases e : k = p
      ·rw [if_pos e, hk]; exact ⟨_, rfl, rfl⟩
      ·rw [if_neg e]; exact ⟨y, hk, rfl⟩
     refine ⟨by rw [keys_mod]; exact h.keys, ?_, fun k x hk => ?_, fun k x hk hne => ?_, fun k x hk => ?_, fun k x hk => ?_, fun k x hk => ?_⟩
     ·obtain ⟨n0, h0⟩ := h.root
      obtain ⟨x, h1, _⟩ := old _ _ h0
      exact ⟨x, h1⟩
     ·obtain ⟨y, h1, _⟩ := lk k x hk
      exact h.path k y h1
     ·obtain ⟨y, h1, _⟩ := lk k x hk
      obtain ⟨u, m, g1, g2, g3⟩ := h.up k y h1 hne
      obtain ⟨m', g4, g5⟩ := old u m g2
      exact ⟨u, m', g1, g4, by rw [g5]; exact g3⟩
     ·obtain ⟨y, h1, h2, _⟩ := lk k x hk
      rw [keys_mod, h2]; exact h.kids k y h1
     ·obtain ⟨y, h1, h2, h3, _⟩ := lk k x hk
      rw [h2, h3]; exact h.ctr k y h1
     ·obtain ⟨y, _, _, _, _, h5⟩ := lk k x hk
      exact h5
end Zt
namespace Wi
open Go SL
def vput (n : Nat) : Str := if n < 128 then [UInt8.ofNat n] else UInt8.ofNat (n % 128 + 128) :: vput (n / 128)
termination_by n
decreasing_by omega
def val : Str → Nat
 | [] => 0
 | c :: r => c.toNat % 128 + 128 * val r
def scan : Nat → Str → Option Nat
 | 0, _ => none
 | _ + 1, [] => none
 | k + 1, c :: r => if c.toNat < 128 then some 0 else (scan k r).map (· + 1)
def num (l : Str) : Nat × Nat × Int :=
 match scan 9 l with
 | none => (0, 0, if l.length < 9 then 12 else 13)
 | some k => if (0 < k ∧ l[k]? = some 0) ∨ 4611686018427387904 ≤ val (l.take (k + 1)) then (0, 0, 13) else (val (l.take (k + 1)), k + 1, 0)
theorem u8_lt (c : UInt8) : c.toNat < 256 := c.toNat_lt
theorem u8_of (n : Nat) (h : n < 256) : (UInt8.ofNat n).toNat = n := by simp; omega
theorem u8_eq {c d : UInt8} (h : c.toNat = d.toNat) : c = d := UInt8.toNat_inj.1 h
theorem scan_some : ∀ (m : Nat) (l : Str) (k : Nat), scan m l = some k → k < m ∧ k < l.length ∧ (∀ i c, i < k → l[i]? = some c → 128 ≤ c.toNat) ∧ ∃ c, l[k]? = some c ∧ c.toNat < 128 := by
 intro m
 induction m with
 | zero => intro l k h; cases h
 | succ m ih =>
  intro l k h
  cases l with
  | nil => cases h
  | cons c r =>
   unfold scan at h
   split at h
   ·rename_i hc
    cases h
    exact ⟨by omega, by simp, fun i c hi => by omega, c, rfl, hc⟩
   ·rename_i hc
    obtain ⟨k', hk', rfl⟩ := Option.map_eq_some_iff.1 h
    obtain ⟨h1, h2, h3, h4⟩ := ih r k' hk'
    refine ⟨by omega, by simp; omega, fun i d hi hd => ?_, by simpa using h4⟩
    rcases i with _ | i
    ·cases hd; omega
    ·exact h3 i d (by omega) (by simpa using hd)
theorem scan_of : ∀ (m : Nat) (l : Str) (k : Nat) (d : UInt8), k < m → (∀ i c, i < k → l[i]? = some c → 128 ≤ c.toNat) → l[k]? = some d → d.toNat < 128 → scan m l = some k := by
 intro m
 induction m with
 | zero => intro l k d h; omega
 | succ m ih =>
  intro l k d hk hall hd hsm
  cases l with
  | nil => cases hd
  | cons c r =>
   unfold scan
   rcases k with _ | k
   ·cases hd; rw [if_pos hsm]
   ·rw [if_neg (by have := hall 0 c (by omega) rfl; omega), ih r k d (by omega) (fun i e hi he => hall (i + 1) e (by omega) (by simpa using he)) (by simpa using hd) hsm]; rfl
theorem scan_none_of : ∀ (m : Nat) (l : Str), (∀ i c, i < m → l[i]? = some c → 128 ≤ c.toNat) → scan m l = none := by
 intro m l h
 cases e : scan m l with
 | none => rfl
 | some k =>
  obtain ⟨h1, _, _, c, hc, h4⟩ := scan_some m l k e
  have := h k c h1 hc
  omega
theorem val_take : ∀ (l : Str) (k : Nat), val (l.take k) < 128 ^ k := by
 intro l
 induction l with
 | nil => intro k; simp [val]; exact Nat.pow_pos (by decide)
 | cons c r ih =>
  intro k
  cases k with
  | zero => simp [val]
  | succ k =>
   have := ih k
   simp only [List.take_succ_cons, val]
   have := Nat.mod_lt c.toNat (show 0 < 128 by decide)
   rw [Nat.pow_succ]
   omega
theorem val_snoc (l : Str) (c : UInt8) : val (l ++ [c]) = val l + 128 ^ l.length * (c.toNat % 128) := by
 induction l with
 | nil => simp [val]
 | cons d l ih => simp only [List.cons_append, val, ih, List.length_cons, Nat.pow_succ]; rw [Nat.mul_add, ← Nat.mul_assoc, Nat.mul_comm 128 (128 ^ l.length)]; omega
theorem vput_val : ∀ (m : Nat) (l : Str) (k : Nat), scan m l = some k → (k = 0 ∨ l[k]? ≠ some 0) → vput (val (l.take (k + 1))) = l.take (k + 1) ∧ (0 < k → 0 < val (l.take (k + 1))) := by
 intro m
 induction m with
 | zero => intro l k h; cases h
 | succ m ih =>
  intro l k h hz
  cases l with
  | nil => cases h
  | cons c r =>
   unfold scan at h
   split at h
   ·rename_i hc
    cases h
    refine ⟨?_, fun h => by omega⟩
    simp only [List.take_succ_cons, List.take_zero, val, Nat.mul_zero, Nat.add_zero, Nat.mod_eq_of_lt hc]
    unfold vput
    rw [if_pos hc]
    simp
   ·rename_i hc
    obtain ⟨k', hk', rfl⟩ := Option.map_eq_some_iff.1 h
    have hne : (k' = 0 ∨ r[k']? ≠ some 0) ∧ r[k']? ≠ some 0 := by
     rcases hz with h0 | h0
     ·omega
     ·have : r[k']? ≠ some 0 := by simpa using h0
      exact ⟨.inr this, this⟩
    obtain ⟨h1, h2⟩ := ih r k' hk' hne.1
    obtain ⟨_, h3, _, d, hd, hd'⟩ := scan_some m r k' hk'
    have hpos : 0 < val (r.take (k' + 1)) := by
     rcases Nat.eq_zero_or_pos k' with h0 | h0
     ·subst h0
      cases r with
      | nil => cases hd
      | cons e r =>
       cases hd
       simp only [List.take_succ_cons, List.take_zero, val, Nat.mul_zero, Nat.add_zero, Nat.mod_eq_of_lt hd']
       rcases Nat.eq_zero_or_pos d.toNat with h5 | h5
       ·exact absurd (by rw [show d = 0 from u8_eq h5]; rfl) hne.2
       ·exact h5
     ·exact h2 h0
    have hc256 := u8_lt c
    refine ⟨?_, fun _ => ?_⟩
    ·simp only [List.take_succ_cons, val]
     unfold vput
     rw [if_neg (by omega), show (c.toNat % 128 + 128 * val (List.take (k' + 1) r)) / 128 = val (List.take (k' + 1) r) by omega, h1]
     congr 1
     refine u8_eq ?_
     rw [u8_of _ (by omega)]; omega
    ·simp only [List.take_succ_cons, val]; omega
theorem vput_ne (n : Nat) : vput n ≠ [] := by unfold vput; split <;> simp
theorem vput_len : ∀ (m n : Nat), n < 128 ^ (m + 1) → 1 ≤ (vput n).length ∧ (vput n).length ≤ m + 1 := by
 intro m
 induction m with
 | zero => intro n h; unfold vput; rw [if_pos (by simpa using h)]; simp
 | succ m ih =>
  intro n h
  unfold vput
  split
  ·simp
  ·have := ih (n / 128) (by rw [Nat.pow_succ] at h; exact Nat.div_lt_of_lt_mul (by rw [Nat.mul_comm]; exact h))
   simp; omega
theorem scan_vput : ∀ (m n : Nat) (r : Str), n < 128 ^ (m + 1) → ∃ k, scan (m + 1) (vput n ++ r) = some k ∧ (vput n).length = k + 1 ∧ val (vput n) = n ∧ (0 < k → (vput n)[k]? ≠ some 0) ∧ (0 < n ∨ k = 0) := by
 intro m
 induction m with
 | zero =>
  intro n r h
  have h : n < 128 := by simpa using h
  unfold vput
  rw [if_pos h]
  refine ⟨0, ?_, rfl, ?_, fun h => by omega, .inr rfl⟩
  ·unfold scan; rw [List.cons_append]; simp only; rw [u8_of _ (by omega), if_pos h]
  ·simp only [val]; rw [u8_of _ (by omega)]; omega
 | succ m ih =>
  intro n r h
  by_cases hn : n < 128
  ·unfold vput
   rw [if_pos hn]
   refine ⟨0, ?_, rfl, ?_, fun h => by omega, .inr rfl⟩
   ·unfold scan; rw [List.cons_append]; simp only; rw [u8_of _ (by omega), if_pos hn]
   ·simp only [val]; rw [u8_of _ (by omega)]; omega
  ·obtain ⟨k, h1, h2, h3, h4, h5⟩ := ih (n / 128) r (by rw [Nat.pow_succ] at h; exact Nat.div_lt_of_lt_mul (by rw [Nat.mul_comm]; exact h))
   rw [vput, if_neg hn]
   refine ⟨k + 1, ?_, by simp [h2], ?_, fun _ => ?_, .inl (by omega)⟩
   ·rw [List.cons_append]
    unfold scan
    rw [u8_of _ (by omega), if_neg (by omega), h1]; rfl
   ·simp only [val]; rw [h3, u8_of _ (by omega)]; omega
   ·rw [List.getElem?_cons_succ]
    rcases Nat.eq_zero_or_pos k with h0 | h0
    ·subst h0
     have hlt : n / 128 < 128 ∨ ¬ n / 128 < 128 := by omega
     rcases hlt with hlt | hlt
     ·rw [vput, if_pos hlt]
      simp only [List.getElem?_cons_zero]
      intro e
      have := congrArg UInt8.toNat (Option.some.inj e)
      rw [u8_of _ (by omega)] at this
      simp at this; omega
     ·rw [vput, if_neg hlt] at h2
      have := List.length_pos_iff.2 (vput_ne (n / 128 / 128))
      rw [List.length_cons] at h2; omega
    ·exact h4 h0
theorem num_put {n : Nat} (h : n < 4611686018427387904) (r : Str) : num (vput n ++ r) = (n, (vput n).length, 0) := by
 obtain ⟨k, h1, h2, h3, h4, _⟩ := scan_vput 8 n r (by omega)
 unfold num
 rw [h1]
 have e1 : (vput n ++ r).take (k + 1) = vput n := by rw [← h2]; simp
 have e2 : (vput n ++ r)[k]? = (vput n)[k]? := List.getElem?_append_left (by omega)
 simp only [e1, e2, h3]
 rw [if_neg, h2]
 rintro (⟨h5, h6⟩ | h5)
 ·exact h4 h5 h6
 ·omega
theorem put_num {l : Str} {n e : Nat} (h : num l = (n, e, 0)) : n < 4611686018427387904 ∧ 0 < e ∧ e ≤ l.length ∧ l.take e = vput n := by
 unfold num at h
 cases hs : scan 9 l with
 | none =>
  rw [hs] at h
  simp only [Prod.mk.injEq] at h
  have := h.2.2
  split at this <;> omega
 | some k =>
  rw [hs] at h
  simp only at h
  split at h
  ·simp at h
  ·rename_i hb
   simp only [not_or] at hb
   simp only [Prod.mk.injEq] at h
   obtain ⟨rfl, rfl, _⟩ := h
   obtain ⟨_, h2, _, _⟩ := scan_some 9 l k hs
   refine ⟨by omega, by omega, by omega, ((vput_val 9 l k hs ?_).1).symm⟩
   rcases Nat.eq_zero_or_pos k with h0 | h0
   ·exact .inl h0
   ·exact .inr fun h => hb.1 ⟨h0, h⟩
theorem num_split {l : Str} {n e : Nat} (h : num l = (n, e, 0)) : l = vput n ++ l.drop e := by
 rw [← (put_num h).2.2.2, List.take_append_drop]
theorem num_err {l : Str} (h : (num l).2.2 ≠ 0) : (num l).1 = 0 ∧ (num l).2.1 = 0 ∧ ((num l).2.2 = 12 ∨ (num l).2.2 = 13) := by
 unfold num at h ⊢
 cases hs : scan 9 l with
 | none => simp only; refine ⟨by simp, by simp, ?_⟩; split <;> simp
 | some k =>
  rw [hs] at h
  simp only at h ⊢
  split
  ·simp
  ·rename_i hb; rw [if_neg hb] at h; simp at h
theorem num_le (l : Str) : (num l).2.1 ≤ l.length ∧ (num l).1 < 4611686018427387904 := by
 by_cases h : (num l).2.2 = 0
 ·obtain ⟨h1, _, h3, _⟩ := put_num (l := l) (n := (num l).1) (e := (num l).2.1) (by rw [← h])
  exact ⟨h3, h1⟩
 ·obtain ⟨h1, h2, _⟩ := num_err h
  rw [h1, h2]; exact ⟨Nat.zero_le _, by decide⟩
def rightN (x : Int) : Bool := decide (0 ≤ x) && decide (x ≤ 4611686018427387903)
structure Rd where
 rest : Str
 err : Int
def blob (d : Str) : Str := vput d.length ++ d
def rnum (r : Rd) : Nat × Rd := if r.err ≠ 0 then (0, r) else ((num r.rest).1, ⟨r.rest.drop (num r.rest).2.1, (num r.rest).2.2⟩)
def rblob (r : Rd) : Str × Rd :=
 if (rnum r).2.err ≠ 0 then ([], (rnum r).2)
 else if (rnum r).2.rest.length < (rnum r).1 then ([], ⟨r.rest, 12⟩)
 else ((rnum r).2.rest.take (rnum r).1, ⟨(rnum r).2.rest.drop (rnum r).1, 0⟩)
theorem rnum_put {n : Nat} (h : n < 4611686018427387904) (r : Str) : rnum ⟨vput n ++ r, 0⟩ = (n, ⟨r, 0⟩) := by
 unfold rnum
 simp only [ne_eq, not_true_eq_false, if_false, num_put h, List.drop_left]
theorem rblob_put {d : Str} (h : d.length < 4611686018427387904) (r : Str) : rblob ⟨blob d ++ r, 0⟩ = (d, ⟨r, 0⟩) := by
 unfold rblob blob
 rw [List.append_assoc, rnum_put h]
 simp
theorem rnum_bad {r : Rd} (h : r.err ≠ 0) : rnum r = (0, r) := by unfold rnum; rw [if_pos h]
theorem rblob_bad {r : Rd} (h : r.err ≠ 0) : rblob r = ([], r) := by unfold rblob; rw [rnum_bad h, if_pos h]
theorem rnum_err {r : Rd} (h : (rnum r).2.err = 0) : r.err = 0 := Classical.byContradiction fun hn => hn (by rw [rnum_bad hn] at h; exact h)
theorem rblob_err {r : Rd} (h : (rblob r).2.err = 0) : r.err = 0 := Classical.byContradiction fun hn => hn (by rw [rblob_bad hn] at h; exact h)
theorem rnum_split {r : Rd} (h : (rnum r).2.err = 0) : (rnum r).1 < 4611686018427387904 ∧ r.rest = vput (rnum r).1 ++ (rnum r).2.rest := by
 have h0 := rnum_err h
 unfold rnum at h ⊢
 rw [if_neg (by simp [h0])] at h ⊢
 have hn : num r.rest = ((num r.rest).1, (num r.rest).2.1, 0) := by rw [← h]
 exact ⟨(put_num hn).1, num_split hn⟩
theorem rblob_split {r : Rd} (h : (rblob r).2.err = 0) : (rblob r).1.length < 4611686018427387904 ∧ r.rest = blob (rblob r).1 ++ (rblob r).2.rest := by
 unfold rblob at h ⊢
 by_cases h1 : (rnum r).2.err = 0
 ·rw [if_neg (by simp [h1])] at h ⊢
  by_cases h2 : (rnum r).2.rest.length < (rnum r).1
  ·rw [if_pos h2] at h; cases h
  ·rw [if_neg h2] at h ⊢
   obtain ⟨h3, h4⟩ := rnum_split h1
   have hl : ((rnum r).2.rest.take (rnum r).1).length = (rnum r).1 := by simp; omega
   refine ⟨by simp only [hl]; exact h3, ?_⟩
   simp only [blob, hl]
   rw [List.append_assoc, List.take_append_drop]; exact h4
 ·rw [if_pos h1] at h; exact absurd h h1
end Wi
namespace Zt
open Go SL Pa Wi
def Srt (x : St) : Prop := x.Pairwise fun a b => a.1 < b.1
theorem slt_irrefl (a : Str) : ¬ a < a := List.lt_irrefl a
theorem slt_trans {a b c : Str} (h : a < b) (k : b < c) : a < c := List.lt_trans h k
theorem sle_of_lt {a b : Str} (h : a < b) : a ≤ b := List.le_of_lt h
theorem slt_of_le_ne {a b : Str} (h : a ≤ b) (hn : a ≠ b) : a < b := by
 rcases List.le_iff_lt_or_eq.1 h with h | h
 ·exact h
 ·exact absurd h hn
theorem snot_le {a b : Str} : ¬ a ≤ b ↔ b < a := List.not_le
theorem Srt.nodup {x : St} (h : Srt x) : (x.map (·.1)).Nodup := by
 unfold List.Nodup
 rw [List.pairwise_map]
 refine List.Pairwise.imp (R := fun (a b : Str × Nd) => a.1 < b.1) (fun {a b} (h : a.1 < b.1) (e : a.1 = b.1) => slt_irrefl b.1 (by rw [e] at h; exact h)) h
theorem lookup_iff {st : St} (hk : (st.map (·.1)).Nodup) {k : Str} {n : Nd} : st.lookup k = some n ↔ (k, n) ∈ st := by
 induction st with
 | nil => simp
 | cons p st ih =>
  obtain ⟨p, m⟩ := p
  simp only [List.map_cons, List.nodup_cons] at hk
  rw [List.lookup_cons]
  by_cases c : k = p
  ·subst c
   rw [show (k == k) = true by simp]
   simp only [List.mem_cons, Prod.mk.injEq, true_and]
   refine ⟨fun h => .inl (Option.some.inj h).symm, fun h => ?_⟩
   rcases h with h | h
   ·rw [h]
   ·exact absurd (List.mem_map.2 ⟨_, h, rfl⟩) hk.1
  ·rw [show (k == p) = false by simpa using c]
   simp only [List.mem_cons, Prod.mk.injEq, c, false_and, false_or]
   exact ih hk.2
theorem lookup_perm {a b : St} (h : a.Perm b) (hk : (a.map (·.1)).Nodup) (k : Str) : a.lookup k = b.lookup k := by
 have hk' : (b.map (·.1)).Nodup := (h.map _).nodup_iff.1 hk
 cases e : a.lookup k with
 | none =>
  cases e' : b.lookup k with
  | none => rfl
  | some n => rw [(lookup_iff hk).2 (h.mem_iff.2 ((lookup_iff hk').1 e'))] at e; cases e
 | some n => exact ((lookup_iff hk').2 (h.mem_iff.1 ((lookup_iff hk).1 e))).symm
theorem srt_eq : ∀ {x y : St}, Srt x → Srt y → x.Perm y → x = y := by
 intro x
 induction x with
 | nil => intro y _ _ h; exact h.nil_eq
 | cons a x ih =>
  intro y hx hy h
  cases y with
  | nil => exact absurd h.symm.nil_eq (by simp)
  | cons b y =>
   obtain ⟨hx1, hx2⟩ := List.pairwise_cons.1 hx
   obtain ⟨hy1, hy2⟩ := List.pairwise_cons.1 hy
   have hab : a = b := Classical.byContradiction fun hn => by
    have ha : a ∈ b :: y := h.mem_iff.1 (by simp)
    have hb : b ∈ a :: x := h.mem_iff.2 (by simp)
    rcases List.mem_cons.1 ha with e | ha
    ·exact hn e
    rcases List.mem_cons.1 hb with e | hb
    ·exact hn e.symm
    exact slt_irrefl _ (slt_trans (hy1 a ha) (hx1 b hb))
   subst hab
   rw [ih hx2 hy2 ((List.perm_cons a).1 h)]
theorem keys_srt : ∀ {x y : List Str}, x.Pairwise (· < ·) → y.Pairwise (· < ·) → x.Perm y → x = y := by
 intro x
 induction x with
 | nil => intro y _ _ h; exact h.nil_eq
 | cons a x ih =>
  intro y hx hy h
  cases y with
  | nil => exact absurd h.symm.nil_eq (by simp)
  | cons b y =>
   obtain ⟨hx1, hx2⟩ := List.pairwise_cons.1 hx
   obtain ⟨hy1, hy2⟩ := List.pairwise_cons.1 hy
   have hab : a = b := Classical.byContradiction fun hn => by
    have ha : a ∈ b :: y := h.mem_iff.1 (by simp)
    have hb : b ∈ a :: x := h.mem_iff.2 (by simp)
    rcases List.mem_cons.1 ha with e | ha
    ·exact hn e
    rcases List.mem_cons.1 hb with e | hb
    ·exact hn e.symm
    exact slt_irrefl _ (slt_trans (hy1 a ha) (hx1 b hb))
   subst hab
   rw [ih hx2 hy2 ((List.perm_cons a).1 h)]
theorem lt_of_le_nodup {ks : List Str} (h : ks.Pairwise (· ≤ ·)) (hn : ks.Nodup) : ks.Pairwise (· < ·) := by
 exact (h.and hn).imp fun {a b} h => slt_of_le_ne h.1 h.2
def srt (st : St) : St := st.mergeSort fun a b => decide (a.1 ≤ b.1)
theorem srt_perm (st : St) : (srt st).Perm st := List.mergeSort_perm _ _
theorem srt_srt {st : St} (hk : (st.map (·.1)).Nodup) : Srt (srt st) := by
 have h1 : (srt st).Pairwise fun a b => decide (a.1 ≤ b.1) = true := List.pairwise_mergeSort (le := fun (a b : Str × Nd) => decide (a.1 ≤ b.1))
  (fun a b c h k => by simp only [decide_eq_true_eq] at *; exact List.le_trans h k) (fun a b => by
   simp only [Bool.or_eq_true, decide_eq_true_eq]
   exact List.le_total a.1 b.1) st
 have h2 : ((srt st).map (·.1)).Nodup := ((srt_perm st).map _).nodup_iff.2 hk
 unfold List.Nodup at h2
 rw [List.pairwise_map] at h2
 exact (h1.and h2).imp fun {a b} h => slt_of_le_ne (by simpa using h.1) h.2
theorem srt_of {st x : St} (hx : Srt x) (h : x.Perm st) : x = srt st := srt_eq hx (srt_srt ((h.map _).nodup_iff.1 hx.nodup)) (h.trans (srt_perm st).symm)
theorem srt_keys {st : St} {ks : List Str} (hk : (st.map (·.1)).Nodup) (h : ks.Perm (st.map (·.1))) (hs : ks.Pairwise (· ≤ ·)) : ks = (srt st).map (·.1) := by
 refine keys_srt (lt_of_le_nodup hs (h.nodup_iff.2 hk)) ?_ (h.trans ((srt_perm st).map _).symm)
 rw [List.pairwise_map]
 exact srt_srt hk
def numsOk (n : Nd) : Bool := rightN n.ver && rightN n.ctr && rightN n.own
def encN (p : Str × Nd) : Str := blob p.1 ++ (blob p.2.data ++ (vput p.2.ver.toNat ++ (vput p.2.ctr.toNat ++ vput p.2.own.toNat)))
def encL (x : St) : Str := x.flatMap encN
def encS (st : St) : Str := if (srt st).all (fun p => numsOk p.2) then encL (srt st) else []
def more (n : Nd) : Nd := { n with kids := i64.wrap (n.kids + 1) }
def lay (st : St) (last p : Str) (n : Nd) : Option St :=
 if parts p = none ∨ p ≤ last ∨ 256 < n.data.length ∨ 10000000000 < n.ctr ∨ (n.own ≠ 0 ∧ 0 < n.ctr) then none
 else if last = [] then (if p = [47] ∧ n.data = [] ∧ n.ver = 0 ∧ n.own = 0 then some (st ++ [(p, n)]) else none)
 else match parent p with
  | none => none
  | some u => match st.lookup u with
   | none => none
   | some m => if m.own ≠ 0 then none else some (modN st u more ++ [(p, n)])
def rnode (r : Rd) : (Str × Nd) × Rd :=
 let a := rblob r
 let b := rblob a.2
 let c := rnum b.2
 let d := rnum c.2
 let e := rnum d.2
 ((a.1, ⟨c.1, d.1, e.1, 0, b.1⟩), e.2)
def decL : Nat → Rd → St → Str → Option St
 | 0, _, _, _ => none
 | f + 1, r, st, last =>
  if r.rest = [] ∧ last ≠ [] then some st
  else if (rnode r).2.err ≠ 0 then none
  else match lay st last (rnode r).1.1 (rnode r).1.2 with
   | none => none
   | some st' => decL f (rnode r).2 st' (rnode r).1.1
def dec (b : Str) : Option St :=
 match decL (b.length + 1) ⟨b, 0⟩ [] [] with
 | none => none
 | some st => if st.all fun p => decide (p.2.kids ≤ p.2.ctr) then some st else none
theorem rnode_put {p : Str × Nd} (h1 : p.1.length < 4611686018427387904) (h2 : p.2.data.length < 4611686018427387904) (h3 : numsOk p.2 = true) (r : Str) :
  rnode ⟨encN p ++ r, 0⟩ = ((p.1, { p.2 with kids := 0 }), ⟨r, 0⟩) := by
 unfold numsOk rightN at h3
 simp only [Bool.and_eq_true, decide_eq_true_eq] at h3
 obtain ⟨⟨⟨v0, v1⟩, c0, c1⟩, o0, o1⟩ := h3
 unfold rnode encN
 simp only [List.append_assoc]
 rw [rblob_put h1, rblob_put h2, rnum_put (by omega), rnum_put (by omega), rnum_put (by omega)]
 simp only [Int.toNat_of_nonneg v0, Int.toNat_of_nonneg c0, Int.toNat_of_nonneg o0]
def pre (a : St) : St := a.map fun p => (p.1, { p.2 with kids := (kc (a.map (·.1)) p.1 : Nat) })
theorem prefix_lt {a b : Str} (h : a <+: b) (hn : a ≠ b) : a < b := by
 obtain ⟨t, rfl⟩ := h
 induction a with
 | nil =>
  cases t with
  | nil => exact absurd rfl hn
  | cons c t => exact List.nil_lt_cons c t
 | cons c a ih =>
  rw [List.cons_append, List.cons_lt_cons_iff]
  exact .inr ⟨rfl, ih fun h => hn (by rw [List.cons_append, ← h])⟩
theorem parent_lt {p u : Str} (h : parent p = some u) : u < p := by
 have hne := parent_ne h
 refine prefix_lt ?_ hne.symm
 unfold parent at h
 cases hp : parts p with
 | none => rw [hp] at h; cases h
 | some ps =>
  rw [hp] at h
  simp only at h
  split at h
  ·cases h
  ·rename_i hps
   cases h
   obtain ⟨hl, hg⟩ := parts_iff.1 hp
   rw [hl]
   have e := List.dropLast_concat_getLast hps
   conv => rhs; rw [← e, mk_snoc]
   by_cases h0 : ps.dropLast = []
   ·rw [h0, if_pos rfl]
    exact ⟨ps.getLast hps, rfl⟩
   ·rw [if_neg h0]
    exact List.prefix_append _ _
structure Inv3 (st : St) : Prop where
 inv : Inv st
 nums : ∀ k n, st.lookup k = some n → numsOk n = true ∧ (n.own ≠ 0 → n.ctr = 0)
 rt : ∀ n, st.lookup [47] = some n → n.data = [] ∧ n.ver = 0 ∧ n.own = 0
theorem kc_perm' {a b : List Str} (h : a.Perm b) (u : Str) : kc a u = kc b u := by unfold kc; exact h.countP_eq _
theorem inv_perm {a b : St} (h : a.Perm b) (hi : Inv a) : Inv b := by
 have hl := lookup_perm h hi.keys
 refine ⟨(h.map _).nodup_iff.1 hi.keys, ?_, fun k n hk => ?_, fun k n hk hne => ?_, fun k n hk => ?_, fun k n hk => ?_, fun k n hk => ?_⟩
 ·obtain ⟨n, hn⟩ := hi.root; exact ⟨n, by rw [← hl]; exact hn⟩
 ·exact hi.path k n (by rw [hl]; exact hk)
 ·obtain ⟨u, m, h1, h2, h3⟩ := hi.up k n (by rw [hl]; exact hk) hne
  exact ⟨u, m, h1, by rw [← hl]; exact h2, h3⟩
 ·rw [hi.kids k n (by rw [hl]; exact hk), kc_perm' (h.map _)]
 ·exact hi.ctr k n (by rw [hl]; exact hk)
 ·exact hi.data k n (by rw [hl]; exact hk)
theorem inv3_perm {a b : St} (h : a.Perm b) (hi : Inv3 a) : Inv3 b := by
 have hl := lookup_perm h hi.inv.keys
 exact ⟨inv_perm h hi.inv, fun k n hk => hi.nums k n (by rw [hl]; exact hk), fun n hk => hi.rt n (by rw [hl]; exact hk)⟩
theorem lookup_pre (a : St) (u : Str) : (pre a).lookup u = (a.lookup u).map fun n => { n with kids := (kc (a.map (·.1)) u : Nat) } := by
 unfold pre
 generalize a.map (·.1) = ks
 induction a with
 | nil => rfl
 | cons p a ih =>
  obtain ⟨p, m⟩ := p
  rw [List.map_cons, List.lookup_cons, List.lookup_cons]
  by_cases c : u = p
  ·subst c
   rw [show (u == u) = true by simp]; rfl
  ·rw [show (u == p) = false by simpa using c]; exact ih
def lastK (a : St) : Str := match a.getLast? with
 | none => []
 | some p => p.1
theorem lastK_snoc (a : St) (p : Str × Nd) : lastK (a ++ [p]) = p.1 := by unfold lastK; simp
theorem path_ne {p : Str} {ps : List Str} (h : parts p = some ps) : p ≠ [] := fun e => by
 obtain ⟨hl, _⟩ := parts_iff.1 h
 obtain ⟨r, hr⟩ := mk_head ps
 rw [e, hr] at hl; cases hl
theorem root_le {k : Str} {ps : List Str} (h : parts k = some ps) : ([47] : Str) ≤ k := by
 obtain ⟨hl, _⟩ := parts_iff.1 h
 obtain ⟨r, hr⟩ := mk_head ps
 rw [hl, hr, List.cons_le_cons_iff]
 exact .inr ⟨rfl, List.nil_le _⟩
theorem kc_le (ks : List Str) (u : Str) : kc ks u ≤ ks.length := by unfold kc; exact List.countP_le_length
theorem lay_step {x a b : St} {p : Str × Nd} (hs : Srt x) (hi : Inv3 x) (hn : x.length ≤ 4611686018427387904) (he : a ++ p :: b = x) : lay (pre a) (lastK a) p.1 { p.2 with kids := 0 } = some (pre (a ++ [p])) := by
 have hin : p ∈ x := by rw [← he]; simp
 have hlk := (lookup_iff hs.nodup (k := p.1) (n := p.2)).2 hin
 obtain ⟨ps, hps⟩ := hi.inv.path _ _ hlk
 have hctr := hi.inv.ctr _ _ hlk
 have hdata := hi.inv.data _ _ hlk
 have hnum := hi.nums _ _ hlk
 have hs' := hs
 rw [← he] at hs'
 obtain ⟨hsa, hsb, hab⟩ := List.pairwise_append.1 hs'
 have hall : ∀ q ∈ a, q.1 < p.1 := fun q hq => hab q hq p (by simp)
 have hlast : ¬ p.1 ≤ lastK a := by
  rw [snot_le]
  unfold lastK
  cases e : a.getLast? with
  | none =>
   cases hp : p.1 with
   | nil => exact absurd hp (path_ne hps)
   | cons c r => exact List.nil_lt_cons c r
  | some q => exact hall q (List.mem_of_getLast? e)
 have hkc0 : kc (a.map (·.1)) p.1 = 0 := Classical.byContradiction fun h => by
  obtain ⟨k, hk, hp⟩ := kc_pos h
  obtain ⟨q, hq, rfl⟩ := List.mem_map.1 hk
  exact slt_irrefl _ (slt_trans (hall q hq) (parent_lt hp))
 have hkc1 : kc [p.1] p.1 = 0 := by
  rw [kc_one, if_neg (fun h => parent_ne h rfl)]
 have hnd : (a.map (·.1)).Nodup := Srt.nodup hsa
 unfold lay
 rw [if_neg (by
  rintro (h | h | h | h | h)
  ·rw [hps] at h; cases h
  ·exact hlast h
  ·simp only at h; omega
  ·simp only at h; omega
  ·exact absurd h.2 (by have := hnum.2 h.1; simp only; omega))]
 by_cases ha : a = []
 ·subst ha
  rw [if_pos (show lastK [] = [] from rfl)]
  have hroot : p.1 = [47] := by
   obtain ⟨n0, hn0⟩ := hi.inv.root
   have h0 := (lookup_iff hs.nodup).1 hn0
   rw [← he] at h0
   rcases List.mem_cons.1 h0 with e | h0
   ·rw [← e]
   ·have h1 := (List.pairwise_cons.1 hsb).1 _ h0
    exact absurd (root_le hps) (by rw [snot_le]; exact h1)
  have hrt := hi.rt p.2 (by rw [← hroot]; exact hlk)
  rw [if_pos ⟨hroot, hrt⟩]
  simp only [pre, List.map_nil, List.nil_append, List.map_cons]
  rw [hkc1]; rfl
 ·have hlne : lastK a ≠ [] := by
   unfold lastK
   cases e : a.getLast? with
   | none => simp at e; exact absurd e ha
   | some q =>
    have hq : q ∈ x := by rw [← he]; exact List.mem_append_left _ (List.mem_of_getLast? e)
    obtain ⟨qs, hqs⟩ := hi.inv.path _ _ ((lookup_iff hs.nodup (k := q.1) (n := q.2)).2 hq)
    exact path_ne hqs
  rw [if_neg hlne]
  have hne : p.1 ≠ [47] := fun e => by
   obtain ⟨q, hq⟩ := List.exists_mem_of_ne_nil a ha
   have h1 := hall q hq
   have hq' : q ∈ x := by rw [← he]; exact List.mem_append_left _ hq
   obtain ⟨qs, hqs⟩ := hi.inv.path _ _ ((lookup_iff hs.nodup (k := q.1) (n := q.2)).2 hq')
   rw [e] at h1
   exact absurd (root_le hqs) (by rw [snot_le]; exact h1)
  obtain ⟨u, mm, hu, hum, hown⟩ := hi.inv.up _ _ hlk hne
  rw [hu]
  have hua : (u, mm) ∈ a := by
   have h0 := (lookup_iff hs.nodup).1 hum
   rw [← he] at h0
   rcases List.mem_append.1 h0 with h | h
   ·exact h
   ·rcases List.mem_cons.1 h with e | h
    ·rw [← e] at hu; exact absurd rfl (parent_ne hu)
    ·have h1 := (List.pairwise_cons.1 hsb).1 _ h
     exact absurd (slt_trans h1 (parent_lt hu)) (slt_irrefl _)
  have hul := (lookup_iff hnd).2 hua
  simp only
  rw [lookup_pre, hul]
  simp only [Option.map_some]
  rw [if_neg (by simpa using hown)]
  refine congrArg some ?_
  unfold pre
  rw [List.map_append, List.map_append, List.map_cons, List.map_nil]
  congr 1
  ·unfold modN
   rw [List.map_map]
   refine List.map_congr_left fun q hq => ?_
   simp only [Function.comp_apply]
   rw [kc_app, kc_one, hu]
   by_cases e : q.1 = u
   ·rw [if_pos e, e, if_pos rfl]
    unfold more
    simp only
    have hkl := kc_le (a.map (·.1)) u
    have hxl : a.length < x.length := by rw [← he]; simp
    rw [List.length_map] at hkl
    rw [w64_eq (by omega) (by omega)]
    rfl
   ·rw [if_neg e, if_neg (fun h => e (Option.some.inj h).symm)]; rfl
  ·rw [List.map_cons, List.map_nil, kc_app, hkc0, hkc1]; rfl
theorem encN_ne (p : Str × Nd) : encN p ≠ [] := by
 unfold encN blob
 intro h
 simp at h
 exact vput_ne _ h.1
theorem decL_enc {x : St} (hs : Srt x) (hi : Inv3 x) (hn : x.length ≤ 4611686018427387904) : ∀ (b a : St) (f : Nat), a ++ b = x → (encL b).length < f → decL f ⟨encL b, 0⟩ (pre a) (lastK a) = some (pre x) := by
 have hlen : ∀ p ∈ x, p.1.length < 4611686018427387904 ∧ p.2.data.length < 4611686018427387904 := fun p hp => by
  have hlk := (lookup_iff hs.nodup (k := p.1) (n := p.2)).2 hp
  obtain ⟨ps, hps⟩ := hi.inv.path _ _ hlk
  obtain ⟨hl, hg⟩ := parts_iff.1 hps
  have := (good_small hg).2
  have := hi.inv.data _ _ hlk
  rw [hl]; omega
 intro b
 induction b with
 | nil =>
  intro a f he hf
  rw [List.append_nil] at he
  subst he
  cases f with
  | zero => omega
  | succ f =>
   unfold decL
   have hane : lastK a ≠ [] := by
    obtain ⟨n0, hn0⟩ := hi.inv.root
    have h0 := (lookup_iff hs.nodup).1 hn0
    unfold lastK
    cases e : a.getLast? with
    | none => simp at e; rw [e] at h0; cases h0
    | some q =>
     obtain ⟨qs, hqs⟩ := hi.inv.path _ _ ((lookup_iff hs.nodup (k := q.1) (n := q.2)).2 (List.mem_of_getLast? e))
     exact path_ne hqs
   rw [if_pos ⟨rfl, hane⟩]
 | cons p b ih =>
  intro a f he hf
  cases f with
  | zero => omega
  | succ f =>
   have hp : p ∈ x := by rw [← he]; simp
   have hlk := (lookup_iff hs.nodup (k := p.1) (n := p.2)).2 hp
   have e1 : encL (p :: b) = encN p ++ encL b := by unfold encL; rw [List.flatMap_cons]
   unfold decL
   rw [e1]
   rw [if_neg (by
    rintro ⟨h, _⟩
    simp only [List.append_eq_nil_iff] at h
    exact encN_ne p h.1)]
   rw [rnode_put (hlen p hp).1 (hlen p hp).2 (hi.nums _ _ hlk).1]
   simp only [ne_eq, not_true_eq_false, if_false]
   rw [lay_step hs hi hn he]
   simp only
   have := ih (a ++ [p]) f (by rw [← he]; simp) (by
    rw [e1, List.length_append] at hf
    have := List.length_pos_iff.2 (encN_ne p)
    omega)
   rw [lastK_snoc] at this
   exact this
theorem pre_id {x : St} (hs : Srt x) (hi : Inv x) : pre x = x := by
 unfold pre
 conv => rhs; rw [← List.map_id x]
 refine List.map_congr_left fun p hp => ?_
 have := hi.kids _ _ ((lookup_iff hs.nodup (k := p.1) (n := p.2)).2 hp)
 obtain ⟨k, n⟩ := p
 simp only at this ⊢
 rw [← this]; rfl
theorem dec_enc {x : St} (hs : Srt x) (hi : Inv3 x) (hn : x.length ≤ 4611686018427387904) : dec (encL x) = some x := by
 unfold dec
 have := decL_enc hs hi hn x [] ((encL x).length + 1) rfl (by omega)
 rw [show lastK [] = [] from rfl, show pre [] = [] from rfl, pre_id hs hi.inv] at this
 rw [this]
 simp only
 rw [if_pos]
 rw [List.all_eq_true]
 intro p hp
 have := (hi.inv.ctr _ _ ((lookup_iff hs.nodup (k := p.1) (n := p.2)).2 hp)).1
 simpa using this
theorem encS_eq {st : St} (hi : Inv3 st) : encS st = encL (srt st) := by
 unfold encS
 rw [if_pos]
 rw [List.all_eq_true]
 intro p hp
 have h3 := inv3_perm (srt_perm st).symm hi
 exact (h3.nums _ _ ((lookup_iff (srt_srt hi.inv.keys).nodup (k := p.1) (n := p.2)).2 hp)).1
theorem dec_encS {st : St} (hi : Inv3 st) (hn : st.length ≤ 4611686018427387904) : dec (encS st) = some (srt st) := by
 rw [encS_eq hi]
 exact dec_enc (srt_srt hi.inv.keys) (inv3_perm (srt_perm st).symm hi) (by rw [(srt_perm st).length_eq]; exact hn)
end Zt
namespace SL
open Go
variable {P : Program} {B : World} {ro σ σ' : AH} {tag tag' : Nat → Nat}
theorem flat_len {w : Nat} : ∀ {l : List (List Value)}, (∀ x ∈ l, x.length = w) → l.flatten.length = l.length * w := by
 intro l
 induction l with
 | nil => intro _; simp
 | cons x l ih => intro h; rw [List.flatten_cons, List.length_append, h x (by simp), ih fun y hy => h y (by simp [hy]), List.length_cons, Nat.add_mul]; omega
theorem flat_get {w : Nat} : ∀ {l : List (List Value)}, (∀ x ∈ l, x.length = w) → ∀ {j : Nat} {x : List Value} {i : Nat}, l[j]? = some x → i < w → l.flatten[j * w + i]? = x[i]? := by
 intro l
 induction l with
 | nil => intro _ j x i h; cases h
 | cons y l ih =>
  intro h j x i hj hi
  rw [List.flatten_cons]
  have hy := h y (by simp)
  rcases j with _ | j
  ·cases hj
   rw [Nat.zero_mul, Nat.zero_add, List.getElem?_append_left (by omega)]
  ·rw [List.getElem?_append_right (by rw [hy, Nat.add_mul]; omega), hy, show (j + 1) * w + i - w = j * w + i by rw [Nat.add_mul]; omega]
   exact ih (fun z hz => h z (by simp [hz])) (by simpa using hj) hi
theorem flat_set {w : Nat} : ∀ {l : List (List Value)}, (∀ x ∈ l, x.length = w) → ∀ {j : Nat} {x : List Value} {i : Nat} (v : Value), l[j]? = some x → i < w → l.flatten.set (j * w + i) v = (l.set j (x.set i v)).flatten := by
 intro l
 induction l with
 | nil => intro _ j x i v h; cases h
 | cons y l ih =>
  intro h j x i v hj hi
  have hy := h y (by simp)
  rcases j with _ | j
  ·cases hj
   rw [List.flatten_cons, Nat.zero_mul, Nat.zero_add, List.set_append_left _ _ (by omega)]; rfl
  ·rw [List.flatten_cons, List.set_append_right _ _ (by rw [hy, Nat.add_mul]; omega), hy, show (j + 1) * w + i - w = j * w + i by rw [Nat.add_mul]; omega, ih (fun z hz => h z (by simp [hz])) v (by simpa using hj) hi]
   rfl
def RowW (tag : Nat → Nat) (σ : AH) (r : Nat) (e : TypeId) (w : Nat) (s : Sl) (l : List (List Value)) : Prop :=
 (s = ⟨none, 0, 0⟩ ∧ l = []) ∨ ∃ (b : Nat) (cs : Array Value), s.a = some ⟨b, 0, none⟩ ∧ tag b = r ∧ σ b = some (.cells cs e) ∧ s.len = l.length ∧ cs.size = s.cap * w ∧ s.len ≤ s.cap ∧ (∀ x ∈ l, x.length = w) ∧ ∀ (i : Nat) (v : Value), l.flatten[i]? = some v → cs[i]? = some v
theorem RowW.nil (r : Nat) (e : TypeId) (w : Nat) : RowW tag σ r e w ⟨none, 0, 0⟩ [] := .inl ⟨rfl, rfl⟩
theorem RowW.len {r : Nat} {e : TypeId} {w : Nat} {s : Sl} {l : List (List Value)} (h : RowW tag σ r e w s l) : s.len = l.length := by
 rcases h with ⟨rfl, rfl⟩ | ⟨b, cs, _, _, _, h, _⟩
 ·rfl
 ·exact h
theorem RowW.cap {r : Nat} {e : TypeId} {w : Nat} {s : Sl} {l : List (List Value)} (h : RowW tag σ r e w s l) : s.len ≤ s.cap := by
 rcases h with ⟨rfl, rfl⟩ | ⟨b, cs, _, _, _, _, _, h, _⟩
 ·exact Nat.le_refl _
 ·exact h
theorem RowW.wide {r : Nat} {e : TypeId} {w : Nat} {s : Sl} {l : List (List Value)} (h : RowW tag σ r e w s l) : ∀ x ∈ l, x.length = w := by
 rcases h with ⟨rfl, rfl⟩ | ⟨b, cs, _, _, _, _, _, _, h, _⟩
 ·intro x hx; cases hx
 ·exact h
theorem RowW.keep {R : List Nat} {r : Nat} {e : TypeId} {w : Nat} {s : Sl} {l : List (List Value)} (h : RowW tag σ r e w s l) (k : Step R ro tag σ tag' σ') (hr : r ∉ R := by simp) : RowW tag' σ' r e w s l := by
 rcases h with h | ⟨b, cs, ha, ht, hs, hx⟩
 ·exact .inl h
 ·obtain ⟨t, e⟩ := k.keep b _ hs (by rw [ht]; exact hr)
  exact .inr ⟨b, cs, ha, t.trans ht, e, hx⟩
theorem RowW.keepC {c r : Nat} {e : TypeId} {w : Nat} {s : Sl} {l : List (List Value)} (h : RowW tag σ r e w s l) (k : StepC c ro tag σ tag' σ') (hr : r % 64 ≠ c := by decide) : RowW tag' σ' r e w s l := by
 obtain ⟨R, h1, h2⟩ := k
 exact h.keep h2 fun m => hr (h1 _ m)
theorem RowW.get {r : Nat} {e : TypeId} {w : Nat} {s : Sl} {l : List (List Value)} (h : RowW tag σ r e w s l) (hs : Sep ro σ) {j : Nat} {x : List Value} (hj : l[j]? = some x) :
  ∃ b, s.a = some ⟨b, 0, none⟩ ∧ tag b = r ∧ ∀ i v, x[i]? = some v → acell ro σ ⟨b, j * w + i, none⟩ = some v := by
 rcases h with ⟨_, rfl⟩ | ⟨b, cs, ha, ht, hb, hln, hc, hle, hw, hg⟩
 ·cases hj
 ·refine ⟨b, ha, ht, fun i v hv => ?_⟩
  have hx : x.length = w := hw x (List.mem_of_getElem? hj)
  have hi : i < w := by
   rcases Nat.lt_or_ge i w with h | h
   ·exact h
   ·rw [List.getElem?_eq_none (by omega)] at hv; cases hv
  have := hg (j * w + i) v (by rw [flat_get hw hj hi]; exact hv)
  unfold acell rd
  simp only [hs b _ hb, hb, cellOf]
  exact this
theorem RowW.st {r : Nat} {e : TypeId} {w : Nat} {s : Sl} {l : List (List Value)} {b j i : Nat} {x : List Value} {v : Value} {K : AH → Prop} (h : RowW tag σ r e w s l) (hs : Sep ro σ) (ha : s.a = some ⟨b, 0, none⟩) (hj : l[j]? = some x) (hi : i < w) (hv : storable v = true)
  (hK : ∀ σ', Step [r] ro tag σ tag σ' → RowW tag σ' r e w s (l.set j (x.set i v)) → K σ') : stN ⟨b, j * w + i, none⟩ K [v] 0 σ := by
 rcases h with ⟨_, rfl⟩ | ⟨b', cs, ha', ht, hb, hln, hc, hle, hw, hg⟩
 ·cases hj
 ·rw [ha] at ha'; cases ha'
  have hjl : j < l.length := by
   rcases Nat.lt_or_ge j l.length with h | h
   ·exact h
   ·rw [List.getElem?_eq_none h] at hj; cases hj
  have hlt : j * w + i < cs.size := by
   rw [hc]
   have : (j + 1) * w ≤ s.cap * w := Nat.mul_le_mul_right _ (by omega)
   rw [Nat.add_mul] at this; omega
  have hfl := flat_len hw
  have hfi : j * w + i < l.flatten.length := by
   rw [hfl]
   have : (j + 1) * w ≤ l.length * w := Nat.mul_le_mul_right _ (by omega)
   rw [Nat.add_mul] at this; omega
  refine ⟨hv, by simp, cs, e, (0, 0), by simpa using hb, by simpa using hlt, by simp, ?_⟩
  simp only [add_zero, stN]
  refine hK _ (step_obj hs ht hb) (.inr ⟨b, _, ha, ht, upd_same _ _ _, by simp [hln], by simp [hc], hle, ?_, ?_⟩)
  ·intro y hy
   rcases List.mem_or_eq_of_mem_set hy with h | h
   ·exact hw y h
   ·rw [h, List.length_set]; exact hw x (List.mem_of_getElem? hj)
  ·intro k u hk
   rw [← flat_set hw v hj hi] at hk
   by_cases hkj : j * w + i = k
   ·subst hkj
    rw [List.getElem?_set_self hfi] at hk
    rw [Array.getElem?_setIfInBounds_self_of_lt hlt]; exact hk
   ·rw [List.getElem?_set_ne hkj] at hk
    rw [Array.getElem?_setIfInBounds_ne hkj]; exact hg k u hk
def ReadW (ro σ : AH) (w : Nat) (s : Sl) (l : List (List Value)) : Prop := s.len = l.length ∧ (s.a = none → l = []) ∧ (∀ x ∈ l, x.length = w) ∧ ∀ p, s.a = some p → ∀ (i : Nat) (v : Value), l.flatten[i]? = some v → acell ro σ (p.add i) = some v
theorem RowW.read {r : Nat} {e : TypeId} {w : Nat} {s : Sl} {l : List (List Value)} (h : RowW tag σ r e w s l) (hs : Sep ro σ) : ReadW ro σ w s l := by
 refine ⟨h.len, fun hn => ?_, h.wide, fun p hp i v hv => ?_⟩
 ·rcases h with ⟨_, rfl⟩ | ⟨b, cs, ha, _⟩
  ·rfl
  ·rw [hn] at ha; cases ha
 ·rcases h with ⟨_, rfl⟩ | ⟨b, cs, ha, ht, hb, _, _, _, _, hg⟩
  ·cases hv
  ·rw [hp] at ha; cases ha
   unfold acell rd
   simp only [add_add, Nat.zero_add, hs b _ hb, hb, cellOf]
   exact hg i v hv
theorem ReadW.flat {w : Nat} {s : Sl} {l : List (List Value)} (h : ReadW ro σ w s l) : l.flatten.length = s.len * w := by rw [flat_len h.2.2.1, h.1]
theorem awp_appendW {r : Nat} {e t : TypeId} {w : Nat} {s s2 : Sl} {l l2 : List (List Value)} {zv : Value} {bytes : Nat} {ty : TypeId} {Q : Value → AH → Prop} (h : RowW tag σ r e w s l) (hs : Sep ro σ) (h2 : ReadW ro σ w s2 l2)
  (ht : P.underlying t = some (.slice e)) (hz : TyIs P e zv w bytes) (hzc : zv.cells.size = w) (hv : ∀ x ∈ l2, ∀ v ∈ x, storable v = true) (hb : (l.length + l2.length) * bytes ≤ 140737488355328) (hb0 : 0 < bytes)
  (hK : ∀ s' tag' σ', (∀ R, s.len = s.cap ∨ r ∈ R → Step R ro tag σ tag' σ') → RowW tag' σ' r e w s' (l ++ l2) → Q (Sl.v s') σ') :
  awp P ro (Builtin.append_ #[t, t] ty #[Sl.v s, Sl.v s2]) Q σ := by
 obtain ⟨i, hi, hiz, his, hib⟩ := hz
 have hz : TyIs P e zv w bytes := ⟨i, hi, hiz, his, hib⟩
 have g0 : (#[t, t] : Array TypeId)[0]? = some t := rfl
 have g1 : (#[t, t] : Array TypeId)[1]? = some t := rfl
 have g2 : (#[Value.slice s.a s.len s.cap, Value.slice s2.a s2.len s2.cap] : Array Value)[0]? = some (Value.slice s.a s.len s.cap) := rfl
 have g3 : (#[Value.slice s.a s.len s.cap, Value.slice s2.a s2.len s2.cap] : Array Value)[1]? = some (Value.slice s2.a s2.len s2.cap) := rfl
 have hln := h2.1
 have hfl2 := h2.flat
 have hvf : ∀ v ∈ l2.flatten, storable v = true := fun v hm => by
  obtain ⟨x, hx, hm⟩ := List.mem_flatten.1 hm
  exact hv x hx v hm
 have hld : ∀ {β : Type} (f : Array Value → Sem β) (Q : β → AH → Prop), awp P ro (f l2.flatten.toArray) Q σ → awp P ro (Sem.bind (Builtin.firstCells w s2.len (.slice s2.a s2.len s2.cap)) f) Q σ := by
  intro β f Q hf
  cases hsa : s2.a with
  | none =>
   rw [h2.2.1 hsa] at hf
   exact hf
  | some p =>
   rw [show Sem.bind (Builtin.firstCells w s2.len (.slice (some p) s2.len s2.cap)) f = (loadCells p (s2.len * w)) >>= f from rfl, awp_bind, ← hfl2]
   exact awp_loadCells l2.flatten 0 #[] (cellsAt_of 0 fun j v hj => by rw [Nat.zero_add]; exact h2.2.2.2 p hsa j v hj) (by simpa using hf)
 have hfs : ∀ {β : Type} (f : Array Value → Sem β) (Q : β → AH → Prop), awp P ro (f l.flatten.toArray) Q σ → awp P ro (Sem.bind (Builtin.firstCells w s.len (.slice s.a s.len s.cap)) f) Q σ := by
  intro β f Q hf
  have hr := h.read hs
  cases hsa : s.a with
  | none =>
   rw [hr.2.1 hsa] at hf
   exact hf
  | some p =>
   rw [show Sem.bind (Builtin.firstCells w s.len (.slice (some p) s.len s.cap)) f = (loadCells p (s.len * w)) >>= f from rfl, awp_bind, ← hr.flat]
   exact awp_loadCells l.flatten 0 #[] (cellsAt_of 0 fun j v hj => by rw [Nat.zero_add]; exact hr.2.2.2 p hsa j v hj) (by simpa using hf)
 have hwide : ∀ x ∈ l ++ l2, x.length = w := fun x hx => by
  rcases List.mem_append.1 hx with h' | h'
  ·exact h.wide x h'
  ·exact h2.2.2.1 x h'
 have hfl := flat_len h.wide
 unfold Builtin.append_
 simp only [Sl.v, bind_def, pure_def, g0, g1, g2, g3]
 rw [awp_underlying ht]
 simp only []
 rw [awp_size hz]
 rw [awp_underlying ht]
 simp only [bind_pure', Builtin.lenOf, bind_def, pure_def, Bool.false_eq_true, if_false, Bool.not_false, if_true, false_or]
 split
 ·rename_i hroom
  refine hld _ _ ?_
  rcases h with ⟨rfl, rfl⟩ | ⟨b, cs, ha, htg, hbk, hln1, hcp, hle, hwl, hg⟩
  ·have h0 : l2 = [] := List.eq_nil_of_length_eq_zero (by simp at hroom; omega)
   subst h0
   have hs2 : s2.len = 0 := hln
   show Q (.slice none (0 + s2.len) 0) σ
   rw [hs2]
   exact hK ⟨none, 0, 0⟩ tag σ (fun _ _ => Step.refl hs) (.inl ⟨rfl, rfl⟩)
  ·have h' : RowW tag σ r e w s l := .inr ⟨b, cs, ha, htg, hbk, hln1, hcp, hle, hwl, hg⟩
   by_cases h0 : l2 = []
   ·subst h0
    have hs2 : s2.len = 0 := hln
    simp only [ha]
    show Q (Value.slice (some ⟨b, 0, none⟩) (s.len + s2.len) s.cap) σ
    rw [hs2, Nat.add_zero]
    have := hK s tag σ (fun _ _ => Step.refl hs) (by rw [List.append_nil]; exact h')
    unfold Sl.v at this
    rw [ha] at this; exact this
   have hpos := List.length_pos_iff.2 h0
   simp only [ha]
   show awp P ro (storeCells (Addr.add ⟨b, 0, none⟩ (s.len * w)) l2.flatten >>= fun _ => Sem.pure (Value.slice (some ⟨b, 0, none⟩) (s.len + s2.len) s.cap)) Q σ
   rw [awp_bind, add_add, Nat.zero_add]
   have hcm : (s.len + s2.len) * w ≤ s.cap * w := Nat.mul_le_mul_right _ hroom
   rw [Nat.add_mul] at hcm
   refine awp_storeCells l2.flatten 0 σ (stN_blk l2.flatten cs 0 σ hbk (by rw [hcp, hfl2]; omega) hvf fun cs' c1 c2 c3 => ?_)
   show Q (Value.slice (some ⟨b, 0, none⟩) (s.len + s2.len) s.cap) _
   refine hK ⟨some ⟨b, 0, none⟩, s.len + s2.len, s.cap⟩ tag _ (fun R hR => (step_obj hs htg hbk).mono fun x hx => by rw [List.mem_singleton] at hx; rw [hx]; exact hR.resolve_left (by omega)) (.inr ⟨b, cs', rfl, htg, upd_same _ _ _, by simp [hln1, hln], by rw [c1]; exact hcp, hroom, hwide, fun i v hi => ?_⟩)
   rw [List.flatten_append] at hi
   rcases Nat.lt_or_ge i l.flatten.length with hh | hh
   ·rw [List.getElem?_append_left hh] at hi
    rw [c2 i (by rw [hfl, ← hln1] at hh; omega)]; exact hg i v hi
   ·rw [List.getElem?_append_right hh] at hi
    have := c3 (i - l.flatten.length) v hi
    rw [← this]
    congr 1; rw [hfl, ← hln1] at hh ⊢; omega
 ·rename_i hroom
  rw [awp_typeInfo hi]
  rw [if_neg (by rw [hib]; omega)]
  rw [awp_typeInfo hi]
  have hl := h.len
  rw [if_neg (by rw [hib]; have := growslice_fits (need := s.len + s2.len) (old := s.cap) (bytes := bytes) (by omega) (by rw [hl, hln]; exact hb); omega)]
  refine awp_choose rfl (fun n => ?_)
  rw [awp_typeInfo hi]
  refine awp_askRoom ?_
  have hcut : s.len + s2.len ≤ (Question.appendCap (s.len + s2.len) s.cap e).cut n := by simp only [Question.cut]; omega
  generalize (Question.appendCap (s.len + s2.len) s.cap e).cut n = N at hcut
  refine hfs _ _ ?_
  refine hld _ _ ?_
  rw [awp_zero hz]
  show ∀ b, ro b = none → σ b = none → Q (Value.slice (some ⟨b, 0, none⟩) (s.len + s2.len) N) (upd σ b _)
  intro b hro hb
  refine hK ⟨some ⟨b, 0, none⟩, s.len + s2.len, N⟩ (setTag tag b r) _ (fun _ _ => Step.fresh hs hro hb) (.inr ⟨b, _, rfl, by simp [setTag], upd_same _ _ _, by simp [hl, hln], ?_, hcut, hwide, fun i v hi => ?_⟩)
  ·have e1 : (Builtin.zeroCells zv.cells (N - (s.len + s2.len))).size = (N - (s.len + s2.len)) * w := by simp [Builtin.zeroCells, hzc]
   rw [Array.size_append, Array.size_append, e1, List.size_toArray, List.size_toArray, hfl2, hfl, ← hl, ← Nat.add_mul, ← Nat.add_mul]
   congr 1; simp only; omega
  ·rw [List.flatten_append] at hi
   have hlt : i < (l.flatten ++ l2.flatten).length := by
    rcases Nat.lt_or_ge i (l.flatten ++ l2.flatten).length with h | h
    ·exact h
    ·rw [List.getElem?_eq_none h] at hi; cases hi
   rw [Array.getElem?_append_left (by simpa using hlt)]
   simpa using hi
theorem awp_cap {t e ty : TypeId} {s : Sl} {Q : Value → AH → Prop} (ht : P.underlying t = some (.slice e)) (h : Q (.int .i64 (s.cap : Int)) σ) : awp P ro (Builtin.cap_ #[t] ty #[Sl.v s]) Q σ := by
 have g0 : (#[t] : Array TypeId)[0]? = some t := rfl
 have g1 : (#[Value.slice s.a s.len s.cap] : Array Value)[0]? = some (Value.slice s.a s.len s.cap) := rfl
 unfold Builtin.cap_
 simp only [Sl.v, bind_def, pure_def, g0, g1]
 rw [awp_underlying ht]
 exact h
structure Src (P : Program) (ro σ : AH) (x : Value) (l : List Value) : Prop where
 len : ∀ {β : Type} (f : Nat → Sem β) (Q : β → AH → Prop), awp P ro (f l.length) Q σ → awp P ro (Sem.bind (Builtin.lenOf x) f) Q σ
 cells : ∀ {β : Type} (f : Array Value → Sem β) (Q : β → AH → Prop), awp P ro (f l.toArray) Q σ → awp P ro (Sem.bind (Builtin.firstCells 1 l.length x) f) Q σ
theorem Read.src {s : Sl} {l : List Value} (h : Read ro σ s l) : Src P ro σ (Sl.v s) l := by
 refine ⟨fun f Q hf => ?_, fun f Q hf => ?_⟩
 ·rw [← h.1] at hf; exact hf
 ·unfold Sl.v
  cases hsa : s.a with
  | none =>
   rw [h.2.1 hsa] at hf ⊢
   exact hf
  | some p =>
   rw [show Sem.bind (Builtin.firstCells 1 l.length (.slice (some p) s.len s.cap)) f = (loadCells p (l.length * 1)) >>= f from rfl, awp_bind, Nat.mul_one]
   exact awp_loadCells l 0 #[] (cellsAt_of 0 fun j v hj => by rw [Nat.zero_add]; exact h.2.2 p hsa j v hj) (by simpa using hf)
theorem str_src (b : ByteArray) : Src P ro σ (.string b) ((L b).map fun c => .int .u8 c.toNat) := by
 refine ⟨fun f Q hf => ?_, fun f Q hf => ?_⟩
 ·rw [List.length_map, L_len] at hf; exact hf
 ·rw [List.length_map, L_len]
  show awp P ro (f ((b.extract 0 b.size).data.map fun c => .int .u8 c.toNat)) Q σ
  rw [show b.extract 0 b.size = b from by rw [S_ext, List.take_of_length_le (by rw [L_len]; exact Nat.le_refl _)]; exact S_L b]
  have e : ((L b).map fun c => Value.int .u8 c.toNat).toArray = b.data.map fun c => .int .u8 c.toNat := by unfold L; rw [← Array.toList_map]
  rw [← e]; exact hf
theorem awp_copyTail {r e t t2 ty : TypeId} {s : Sl} {l l2 : List Value} {m bytes : Nat} {x zv : Value} {Q : Value → AH → Prop} (h : Row tag σ r e s l) (hs : Sep ro σ) (ht : P.underlying t = some (.slice e)) (hz : TyIs P e zv 1 bytes)
  (hx : Src P ro σ x l2) (hm : m + l2.length = l.length) (hv : ∀ v ∈ l2, storable v = true) (hQ : ∀ σ', Step [r] ro tag σ tag σ' → Row tag σ' r e s (l.take m ++ l2) → Q (.int .i64 (l2.length : Int)) σ') :
  awp P ro (Builtin.copy_ #[t, t2] ty #[Sl.v (⟨cutA s.a m s.cap 1, s.len - m, s.cap - m⟩ : Sl), x]) Q σ := by
 have g0 : (#[t, t2] : Array TypeId)[0]? = some t := rfl
 have g1 : (#[Value.slice (cutA s.a m s.cap 1) (s.len - m) (s.cap - m), x] : Array Value)[0]? = some (Value.slice (cutA s.a m s.cap 1) (s.len - m) (s.cap - m)) := rfl
 have g2 : (#[Value.slice (cutA s.a m s.cap 1) (s.len - m) (s.cap - m), x] : Array Value)[1]? = some x := rfl
 have hl := h.len
 unfold Builtin.copy_
 simp only [Sl.v, bind_def, pure_def, g0, g1, g2]
 rw [awp_underlying ht]
 simp only []
 refine hx.len _ _ ?_
 rw [awp_size hz]
 rw [show Nat.min l2.length (s.len - m) = l2.length from Nat.min_eq_left (by omega)]
 refine hx.cells _ _ ?_
 have done : l2 = [] → Q (.int .i64 (l2.length : Int)) σ := fun e0 => hQ σ (Step.refl hs) (by
  rw [e0, List.append_nil, List.take_of_length_le (by rw [e0] at hm; simp at hm; omega)]; exact h)
 rcases h with ⟨rfl, rfl⟩ | ⟨b, cs, ha, htg, hbk, hln, hcp, hle, hg⟩
 ·have h0 : l2 = [] := List.eq_nil_of_length_eq_zero (by simp only [List.length_nil] at hm; omega)
  rw [show cutA none m 0 1 = none from by unfold cutA; split <;> rfl]
  exact done h0
 ·by_cases h0 : l2 = []
  ·unfold cutA
   have := done h0
   subst h0
   split
   ·exact this
   ·exact this
  ·have hpos := List.length_pos_iff.2 h0
   unfold cutA
   rw [if_neg (by omega), ha]
   simp only [Option.map_some, Nat.mul_one, add_add, Nat.zero_add]
   show awp P ro (storeCells ⟨b, m, none⟩ l2 >>= fun _ => Sem.pure (goInt l2.length)) Q σ
   rw [awp_bind]
   refine awp_storeCells l2 0 σ (stN_blk l2 cs 0 σ hbk (by omega) hv fun cs' c1 c2 c3 => ?_)
   refine hQ _ (step_obj hs htg hbk) (.inr ⟨b, cs', ha, htg, upd_same _ _ _, by simp; omega, by rw [c1]; exact hcp, hle, fun i hi => ?_⟩)
   simp at hi
   rcases Nat.lt_or_ge i m with hh | hh
   ·rw [c2 i (by omega), List.getElem?_append_left (by simp; omega), List.getElem?_take, if_pos hh]; exact hg i (by omega)
   ·have e1 : (l.take m).length = m := by simp; omega
    rw [List.getElem?_append_right (by omega), e1]
    have := c3 (i - m) _ (List.getElem?_eq_getElem (by omega))
    rw [List.getElem?_eq_getElem (by omega), ← this]
    congr 1; omega
theorem Row.more {r : Nat} {e : TypeId} {s : Sl} {l : List Value} (h : Row tag σ r e s l) {n : Nat} (hn : l.length + n ≤ s.cap) : ∃ xs : List Value, xs.length = n ∧ Row tag σ r e ⟨s.a, l.length + n, s.cap⟩ (l ++ xs) := by
 rcases h with ⟨rfl, rfl⟩ | ⟨b, cs, ha, htg, hbk, hln, hcp, hle, hg⟩
 ·have : n = 0 := by simpa using hn
  subst this
  exact ⟨[], rfl, .inl ⟨rfl, rfl⟩⟩
 ·refine ⟨(cs.toList.drop l.length).take n, by simp; omega, .inr ⟨b, cs, ha, htg, hbk, by simp; omega, hcp, hn, fun i hi => ?_⟩⟩
  rcases Nat.lt_or_ge i l.length with h1 | h1
  ·rw [List.getElem?_append_left h1]; exact hg i h1
  ·simp at hi
   rw [List.getElem?_append_right h1, List.getElem?_take, if_pos (by omega), List.getElem?_drop]
   simp only [Array.getElem?_toList]
   congr 1; omega
theorem Row.capAt {r : Nat} {e : TypeId} {s : Sl} {l : List Value} (h : Row tag σ r e s l) : l.length ≤ s.cap := by
 rcases h with ⟨rfl, rfl⟩ | ⟨b, cs, ha, htg, hbk, hln, hcp, hle, hg⟩
 ·simp
 ·omega
theorem cutA_zero (a : Option Addr) (c s : Nat) : cutA a 0 c s = a := by
 unfold cutA; split
 ·rfl
 ·cases a <;> simp [Nat.zero_mul, add_zero]
end SL
end Go.Proofs.YthfpmipeejjogaaGreatDoor
