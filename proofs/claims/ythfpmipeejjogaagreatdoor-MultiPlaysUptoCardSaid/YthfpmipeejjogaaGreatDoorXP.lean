/- MpH, MpI, MpJ, ZtR, MuR, MpK -/
import Derived.Test.YthfpmipeejjogaaGreatDoorXO
set_option maxRecDepth 100000
set_option maxHeartbeats 4000000
set_option linter.unusedVariables false
set_option linter.unusedSimpArgs false
open Go.IntKind (i64)
open Go.Proofs.Tryz
namespace Go.Proofs.YthfpmipeejjogaaGreatDoor
namespace Zt
open Go SL G Pa Wi
variable {B : World} {ro σ σ' : AH} {tag tag' : Nat → Nat}
theorem invB_remove0 {b : Nat} {st : St} {p : Str} {v : Int} (h : InvB b st) (hb : b ≤ 4398046511103) : InvB b (remove st p v).1 := by
 have hi := inv_remove (p := p) (v := v) h.inv (by have := h.len; omega)
 have hlen := remove_len st p v
 rcases remove_spec st p v with ⟨e, _, he⟩ | ⟨n, u, he, hn, hne, hu, hk⟩
 ·rw [he]; exact h
 ·rw [he] at hi hlen ⊢
  simp only at hi hlen ⊢
  have hnd : ((modN st u less).map (·.1)).Nodup := by rw [keys_mod]; exact h.inv.keys
  have hl : ∀ k m, (delK (modN st u less) p).lookup k = some m → ∃ m', st.lookup k = some m' ∧ (m = m' ∨ m = less m') := fun k m hk => by
   rw [lookup_del hnd] at hk
   split at hk
   ·cases hk
   ·rw [lookup_mod] at hk
    split at hk
    ·obtain ⟨m', h1, h2⟩ := Option.map_eq_some_iff.1 hk
     exact ⟨m', h1, .inr h2.symm⟩
    ·exact ⟨m, hk, .inl rfl⟩
  refine ⟨hi, fun k m hk => ?_, fun k m hk => ?_, fun m hk => ?_, by have := h.len; omega⟩
  ·obtain ⟨m', h1, h2⟩ := hl k m hk
   have := h.ver k m' h1
   rcases h2 with rfl | rfl
   ·omega
   ·show 0 ≤ m'.ver ∧ m'.ver ≤ _; omega
  ·obtain ⟨m', h1, h2⟩ := hl k m hk
   have := h.own k m' h1
   rcases h2 with rfl | rfl
   ·exact this
   ·exact this
  ·obtain ⟨m', h1, h2⟩ := hl _ m hk
   have := h.rt m' h1
   rcases h2 with rfl | rfl
   ·exact this
   ·exact this
theorem sweepE_inv0 {b : Nat} {st : St} {home : Str} {ws : List Int} (h : InvB b st) (hb : b ≤ 4398046511103) : InvB b (sweepE st home ws).1 := by
 have key : ∀ (ks : List Str) (a : St × List Str), InvB b a.1 → InvB b (ks.foldl (swept home) a).1 := by
  intro ks
  induction ks with
  | nil => intro a h; exact h
  | cons k ks ih =>
   intro a h
   rw [List.foldl_cons]
   refine ih _ ?_
   unfold swept
   split
   ·exact invB_remove0 h hb
   ·exact h
 exact key _ _ h
theorem sweepE_told {b : Nat} {st : St} {home : Str} {ws : List Int} (h : InvB b st) (hb : b ≤ 1099511627776) : (sweepE st home ws).2.length ≤ b + 1 := by
 have := (sweepE_law (home := home) (ws := ws) h hb).1
 have := h.len
 omega
theorem effD_map (l : List Str) : l.map effD = (l.map fun p => ((2 : Int), p)).map effV := by rw [List.map_map]; rfl
theorem g69 : prog.eqGuardType prog.depth 69 = false := by kernel_rfl
theorem st69 : prog.stoodInHeld 69 = false := by kernel_rfl
theorem u69q : ∃ n1 n2 : Field, prog.underlying 69 = some (.struct #[n1, n2]) ∧ (n1.type = 3 ∧ n1.offset = 0 ∧ n1.name ≠ "_") ∧ (n2.type = 3 ∧ n2.offset = 1 ∧ n2.name ≠ "_") :=
 ⟨_, _, underlying69, ⟨rfl, rfl, by decide⟩, ⟨rfl, rfl, by decide⟩⟩
theorem eq69 {a b : Int} {τ : AH} : aread prog ro (Op.equalIn (9999 + 1) 69 (.agg #[.int .i64 a, .int .i64 b]) (.agg #[.int .i64 a, .int .i64 b])) τ = some true := by
 obtain ⟨n1, n2, hu, ⟨h1, h2, h3⟩, h4, h5, h6⟩ := u69q
 unfold Op.equalIn
 show aread prog ro (Sem.bind (underlying 69) _) _ = _
 rw [underlying_bind _ _ hu]
 show aread prog ro (if prog.stoodInHeld 69 = true then _ else _) τ = _
 rw [st69, if_neg (by simp)]
 show aread prog ro (Sem.bind (forIn #[n1, n2] _ _) _) τ = _
 have pp : ∀ {β : Type} (j : Nat) (v : Int) (f : Value → Sem β), (#[Value.int IntKind.i64 a, Value.int IntKind.i64 b] : Array Value)[j]? = some (.int .i64 v) → aread prog ro (part 3 #[Value.int IntKind.i64 a, Value.int IntKind.i64 b] j >>= f) τ = aread prog ro (f (.int .i64 v)) τ := fun j v f hj => by
  refine aread_bind _ _ ?_
  unfold part
  show aread prog ro (Sem.bind (isAgg 3) _) τ = _
  rw [aread_isAgg (by kernel_rfl : prog.underlying 3 = some (.int .i64))]
  rw [hj]
  rfl
 have q1 : ∀ {β : Type} (n : Int) (f : Bool → Sem β), aread prog ro (Op.equalIn 9999 3 (.int .i64 n) (.int .i64 n) >>= f) τ = aread prog ro (f true) τ := fun n f => aread_bind _ _ eqint
 refine (aread_bind _ _ (a := ((none, ()) : Option Bool × Unit)) ?_).trans rfl
 rw [← Array.forIn_toList]
 rw [List.forIn_cons]
 refine (aread_bind _ _ (a := .yield ((none, ()) : Option Bool × Unit)) ?_).trans ?_
 ·rw [if_pos h3, h1, h2, pp 0 a _ rfl, pp 0 a _ rfl, q1]; rfl
 show aread prog ro (forIn [n2] _ _) τ = _
 rw [List.forIn_cons]
 refine (aread_bind _ _ (a := .yield ((none, ()) : Option Bool × Unit)) ?_).trans ?_
 ·rw [if_pos h6, h4, h5, pp 1 b _ rfl, pp 1 b _ rfl, q1]; rfl
 rfl
theorem ne69 {a b : Int} {x y : Operand} {K : Value → AH → Prop} (h : K (.bool false) σ) : awp prog ro (do eqGuard .neq 69 x y (.agg #[.int .i64 a, .int .i64 b]) (.agg #[.int .i64 a, .int .i64 b]); Go.binOp .neq 69 (.agg #[.int .i64 a, .int .i64 b]) (.agg #[.int .i64 a, .int .i64 b])) K σ := by
 refine awp_at_aread _ ?_ h
 refine (aread_bind _ _ (a := ()) ?_).trans ?_
 ·show aread prog ro (if (!(prog.eqGuardType prog.depth 69)) = true then _ else _) σ = _
  rw [g69, if_pos (by simp)]
  rfl
 ·show aread prog ro (Sem.bind (Op.equal 69 _ _) fun b => Sem.pure (Value.bool !b)) σ = _
  rw [equal_unfold, aread_bind _ _ eq69]; rfl
theorem bytes_ok {T U : Nat} {st : St} {Q : Bool → AH → Prop} (hT : TreeIs tag σ 10 T st) (hU : RefIs tag σ 11 U (srt st)) (hi : Inv3 st) (hn : st.length ≤ 4294967296)
  (hQ : ∀ tag' σ', StepS [0, 1, 30] ro tag σ tag' σ' → Q true σ') :
  c_ztree_Tree_Encode B ro (some ⟨T, 0, none⟩) σ fun s1 σ => c_ref07_Tree_Encode B ro (some ⟨U, 0, none⟩) σ fun s2 σ => c_ref01_Same B ro s1 s2 σ Q := by
 obtain ⟨M, bs, hA⟩ := hT
 have hsl : (srt st).length = st.length := (srt_perm st).length_eq
 refine encode_ok (by decide) (by decide) (by decide) (by decide) (by decide) hA hi.inv.small hn fun s3 tag3 σ3 st3 r3 => ?_
 have h3p := inv3_perm (srt_perm st).symm hi
 have hU3 := hU.keep st3 (by decide) (by decide) (by decide)
 refine encode7_in (tag := tag3) (fun tag' σ' st' => (hU3.keepS st').m st'.sep) (by rw [hsl]; exact hn) (fun p hp => ?_) fun s4 tag4 σ4 st4 r4 => ?_
 ·obtain ⟨k1, k2⟩ := h3p.inv.small p hp
  exact ⟨k1, k2, (h3p.nums _ _ ((lookup_iff h3p.inv.keys (k := p.1) (n := p.2)).2 hp)).1⟩
 rw [← encS_eq hi] at r4
 refine same_ok ((r3.keepS st4).read st4.sep) (r4.read st4.sep) ?_
 rw [decide_eq_true rfl]
 exact hQ tag4 σ4 ((st3.s (C := [0, 1, 30]) (by decide)).trans (st4.mono (by decide)))
theorem plays_tail {a1 os : Sl} {T U b X8 : Nat} {st : St} {t : Txn} {x30 : Int} {Q : Bool → AH → Prop} {Y : Option Addr × Int → AH → Prop} (g : Glob ro) (hs : SL.Sep ro σ) (hT : TreeIs tag σ 10 T st) (hU : RefIs tag σ 11 U (srt st)) (hi : InvB b st) (hb : b ≤ 1073741824)
  (r8 : Row tag σ 46 72 ⟨some ⟨X8, 0, none⟩, 6, 6⟩ (txV t os)) (hhl : t.home.length ≤ 4611686018427387903)
  (hK : ∀ tag' σ', SL.Sep ro σ' → TreeIs tag' σ' 10 T st → RefIs tag' σ' 11 U (srt st) → Y (some ⟨U, 0, none⟩, i64.wrap (x30 + 1)) σ') :
  j39_law08_MultiPlays B ro a1 X8 (some ⟨T, 0, none⟩) x30 (some ⟨U, 0, none⟩) Q Y false σ := by
 have hlen := hi.len
 have hsl : (srt st).length = st.length := (srt_perm st).length_eq
 have hsp := srt_perm st
 unfold j39_law08_MultiPlays
 rw [if_neg (by simp)]
 have home8 : ∀ tag' σ', SL.Sep ro σ' → Row tag' σ' 46 72 ⟨some ⟨X8, 0, none⟩, 6, 6⟩ (txV t os) → acell ro σ' ⟨X8, 0, none⟩ = some (.string (S t.home)) := fun tag' σ' hs' r => by
  obtain ⟨p, hp, hg⟩ := r.ptr hs' (by simp [txV])
  cases hp
  have := hg 0 _ rfl
  rwa [Nat.zero_mul, add_zero] at this
 refine ⟨S t.home, home8 tag σ hs r8, ?_⟩
 refine rusage_ok (tag := tag) (hU.m hs) (fun tag' σ' st' => (hU.keep st').m st'.sep) hs (by omega) (fun p hp => hi.inv.small p (hsp.mem_iff.1 hp)) (fun p hp => hi.inv.path _ _ ((lookup_iff hi.inv.keys (k := p.1) (n := p.2)).2 (hsp.mem_iff.1 hp))) fun tag1 σ1 st1 => ?_
 rw [usage_perm hsp t.home]
 have r81 := r8.keep st1
 have hT1 := hT.keep st1
 have hU1 := hU.keep st1
 refine ⟨S t.home, home8 _ _ st1.sep r81, ?_⟩
 refine nw_cells (tag := tag1) 22 st1.sep fun X2 tag2 σ2 st2 r2 => ?_
 obtain ⟨M2, bs2, hA2⟩ := hT1.keep (st2 [])
 refine usage_ok g (by decide) (by decide) hA2 hi.inv (by omega) (hs := [t.home]) r2 (by decide) (by simpa using hhl) (by simp) fun tag3 σ3 st3 => ?_
 have eu : usages st [t.home] = usage st t.home := by simp [usages]
 rw [eu]
 have r83 := (r81.keep (st2 [])).keepS st3
 have hT3 : TreeIs tag3 σ3 10 T st := TreeIs.keepS ⟨M2, bs2, hA2⟩ st3
 have hU3 := (hU1.keep (st2 [])).keepS st3
 refine ne69 ⟨false, rfl, ?_⟩
 rw [if_neg (by simp)]
 refine ⟨S t.home, home8 _ _ st3.sep r83, S t.home, home8 _ _ st3.sep r83, ?_⟩
 refine nw_cells (tag := tag3) 22 st3.sep fun X4 tag4 σ4 st4 r4 => ?_
 obtain ⟨M4, bs4, hA4⟩ := hT3.keep (st4 [])
 refine usage_ok g (by decide) (by decide) hA4 hi.inv (by omega) (hs := [t.home, t.home]) r4 (by decide) (by simpa using hhl) (by simp) fun tag5 σ5 st5 => ?_
 have hT5 : TreeIs tag5 σ5 10 T st := TreeIs.keepS ⟨M4, bs4, hA4⟩ st5
 have hU5 := (hU3.keep (st4 [])).keepS st5
 obtain ⟨ul1, ul2⟩ := usage_le hi.inv t.home
 have e1 : i64.wrap (2 * ((usage st t.home).1 : Int)) = (((usages st [t.home, t.home]).1 : Nat) : Int) := by
  rw [w64_eq (by omega) (by omega)]; simp [usages]; omega
 have e2 : i64.wrap (2 * ((usage st t.home).2 : Int)) = (((usages st [t.home, t.home]).2 : Nat) : Int) := by
  rw [w64_eq (by omega) (by omega)]; simp [usages]; omega
 rw [e1, e2]
 refine ne69 ⟨false, rfl, ?_⟩
 unfold j48_law08_MultiPlays
 rw [if_neg (by simp)]
 refine bytes_ok (tag := tag5) hT5 hU5 (hi.inv3 (by omega)) (by omega) fun tag6 σ6 st6 => ?_
 unfold j50_law08_MultiPlays
 rw [if_neg (by simp)]
 unfold j8_law08_MultiPlays
 exact hK tag6 σ6 st6.sep (hT5.keepS st6) (hU5.keepS st6)
theorem plays_sweep {a1 os : Sl} {T U b X8 : Nat} {st : St} {t : Txn} {x30 : Int} {Q : Bool → AH → Prop} {Y : Option Addr × Int → AH → Prop} (g : Glob ro) (hs : SL.Sep ro σ) (hT : TreeIs tag σ 10 T st) (hU : RefIs tag σ 11 U (srt st)) (hi : InvB b st) (hb : b ≤ 1073741824)
  (r8 : Row tag σ 46 72 ⟨some ⟨X8, 0, none⟩, 6, 6⟩ (txV t os)) (hhl : t.home.length ≤ 4611686018427387903)
  (hK : ∀ st' tag' σ', InvB b st' → SL.Sep ro σ' → TreeIs tag' σ' 10 T st' → RefIs tag' σ' 11 U (srt st') → Y (some ⟨U, 0, none⟩, i64.wrap (x30 + 1)) σ') :
  j37_law08_MultiPlays B ro a1 X8 (some ⟨T, 0, none⟩) x30 (some ⟨U, 0, none⟩) Q Y false σ := by
 unfold j37_law08_MultiPlays
 rw [if_neg (by simp)]
 obtain ⟨tX, o1, hX⟩ := r8.tagOf
 obtain ⟨ej, hd0⟩ := one_del σ X8
 refine lent_block X8 ?_
 have hsl : SL.Sep (join ro (SL.one σ X8)) (SL.del σ X8) := hs.lent
 have c8 : ∀ (τ : AH) i v, (txV t os)[i]? = some v → acell (join ro (SL.one σ X8)) τ ((⟨X8, 0, none⟩ : Addr).add i) = some v := fun τ i v hv => by
  have := r8.lend hs (τ := τ) hv
  rwa [Nat.mul_one] at this
 have c80 : ∀ τ : AH, acell (join ro (SL.one σ X8)) τ ⟨X8, 0, none⟩ = some (.string (S t.home)) := fun τ => by
  have := c8 τ 0 _ rfl
  rwa [add_zero] at this
 refine ⟨t.sweep, c8 _ 5 _ rfl, ?_⟩
 by_cases c : t.sweep = true
 ·rw [if_pos c]
  refine ⟨S t.home, c80 _, t.owner, c8 _ 1 _ rfl, S t.home, c80 _, t.owner, c8 _ 1 _ rfl, ?_⟩
  have hT0 := hT.del' tX (by decide) (by decide) (by decide) (by decide) (b := X8)
  have hU0 := hU.del tX (by decide) (by decide) (by decide)
  refine nw_cells (tag := tag) 50 hsl fun X1 tag1 σ1 st1 r1 => ?_
  have r1' : Row tag1 σ1 50 3 ⟨some ⟨X1, 0, none⟩, [t.owner].length, [t.owner].length⟩ ([t.owner].map vI) := r1
  refine sweepI_ok (tag := tag1) (r := 10) (b := b) (q := 33) (q2 := 34) (x := 50) (ws := [t.owner]) (glob_lent g) (by decide) (by decide) (by decide) (by decide) (by decide) (by decide) (by decide) (by decide) (by decide) (st1 []).sep (hT0.keep (st1 [])) hi hb r1' (by simp) fun es tag2 σ2 st2 h2 e2 => ?_
  refine nw_cells (tag := tag2) 51 st2.sep fun X3 tag3 σ3 st3 r3 => ?_
  have r3' : Row tag3 σ3 51 3 ⟨some ⟨X3, 0, none⟩, [t.owner].length, [t.owner].length⟩ ([t.owner].map vI) := r3
  have hU3 := ((hU0.keep (st1 [])).keepS st2).keep (st3 [])
  refine rsweepI_ok (tag := tag3) (b := b) (q := 52) (q2 := 53) (x := 51) (ws := [t.owner]) (by decide) (by decide) (by decide) (by decide) (by decide) (by decide) (st3 []).sep hU3 hi hb r3' (by simp) fun es' tag4 σ4 st4 h4 e4 => ?_
  have e24 := RowW.keepS (RowW.keep e2 (st3 []) (by simp)) st4
  have htl := sweepE_told (home := t.home) (ws := [t.owner]) hi (by omega)
  rw [effD_map] at e24 e4
  refine sameEffects_ok (tag := tag4) e24 e4 (by rw [List.length_map]; omega) fun hs4 => ?_
  intro hdis
  have hT4 := (h2.keep (st3 [])).keepS st4
  have k : StepS [0, 10, 33, 34, 11, 52, 53] (join ro (SL.one σ X8)) tag (SL.del σ X8) tag4 σ4 := ((st1 []).s (by simp)).trans ((st2.mono (by decide)).trans (((st3 []).s (by simp)).trans (st4.mono (by decide))))
  have kb := StepS.back k hs hdis ⟨_, hX⟩
  have hTb := hT4.back (r' := tag X8) hdis ⟨_, hX⟩
  have hUb := h4.back (q := tag X8) hdis ⟨_, hX⟩
  exact plays_tail g kb.sep hTb hUb (sweepE_inv0 hi (by omega)) hb (r8.keepS kb) hhl fun tag' σ' a b' c' => hK _ tag' σ' (sweepE_inv0 hi (by omega)) a b' c'
 ·rw [if_neg c]
  intro _
  rw [ej]
  exact plays_tail g hs hT hU hi hb r8 hhl fun tag' σ' a b' c' => hK _ tag' σ' hi a b' c'
theorem flip8_ok {a1 x36 s x28 x29 : Sl} {x8 x10 X18 d : Nat} {x23 x27 : Option Addr} {x30 x46 x64a x64b x73 : Int} {o : MOp} {Q : Bool → AH → Prop} {Y : Option Addr × Int → AH → Prop} {Y75 : Int → AH → Prop} {vs : List Int} (hs : SL.Sep ro σ) (h : Row tag σ d 5 s (vs.map vB)) (hd : d ≠ 49) (r18 : Row tag σ 49 82 ⟨some ⟨X18, 0, none⟩, 6, 6⟩ (opV o s)) (hl : vs.length ≤ 4611686018427387903)
  (hK : ∀ σ', Step [d] ro tag σ tag σ' → Y75 (i64.wrap (x73 + 1)) σ') : lfpD (l82_law08_MultiPlays B ro a1 x8 x10 X18 x23 x30 x36 x46 x27 x28 x29 x64a x64b x73 s Q Y Y75) (0 : Int) σ := by
 suffices ∀ m j (vs : List Int) σ2, j + m = vs.length → vs.length ≤ 4611686018427387903 → Step [d] ro tag σ tag σ2 → Row tag σ2 d 5 s (vs.map vB) → lfpD (l82_law08_MultiPlays B ro a1 x8 x10 X18 x23 x30 x36 x46 x27 x28 x29 x64a x64b x73 s Q Y Y75) (j : Int) σ2 from
  this _ 0 vs σ (Nat.zero_add _) hl (Step.refl hs) h
 intro m
 induction m with
 | zero =>
  intro j vs σ2 hj hl st2 r2
  have hln := r2.len
  rw [List.length_map] at hln
  refine lfpD.intro ?_
  unfold l82_law08_MultiPlays
  rw [if_neg (by omega)]
  unfold j77_law08_MultiPlays
  exact hK σ2 st2
 | succ m ih =>
  intro j vs σ2 hj hl st2 r2
  have hln := r2.len
  rw [List.length_map] at hln
  have hjl : j < vs.length := by omega
  obtain ⟨p, hp, hg⟩ := r2.ptr st2.sep (by simp; omega)
  have r182 := r18.keep st2 (by simp; omega)
  obtain ⟨p8, hp8, hg8⟩ := r182.ptr st2.sep (by simp [opV])
  cases hp8
  refine lfpD.intro ?_
  unfold l82_law08_MultiPlays
  rw [if_pos (by omega)]
  refine ⟨s, hg8 2 _ rfl, s, hg8 2 _ rfl, p, hp, by omega, by omega, vs[j], by rw [Int.toNat_natCast]; exact hg j _ (by rw [List.getElem?_map, List.getElem?_eq_getElem hjl]; rfl), p, hp, by omega, by omega, ?_⟩
  rw [Int.toNat_natCast]
  refine r2.st st2.sep hp (by simpa using hjl) rfl fun σ3 st3 r3 => ?_
  rw [Pa.inc j (by omega)]
  rw [show (vs.map vB).set j (.int .u8 (bitXor .u8 (if IntKind.u8.signed then -1 else IntKind.u8.max) vs[j])) = (vs.set j (bitXor .u8 (if IntKind.u8.signed then -1 else IntKind.u8.max) vs[j])).map vB from by rw [List.map_set]] at r3
  exact ih (j + 1) _ σ3 (by rw [List.length_set]; omega) (by rw [List.length_set]; exact hl) (st2.trans st3) r3
theorem flips_ok {a1 x36 x28 x29 : Sl} {x8 x10 : Nat} {x23 x27 : Option Addr} {x30 x46 x64a x64b : Int} {ops : List MOp} {ds : List Sl} {Q : Bool → AH → Prop} {Y : Option Addr × Int → AH → Prop} (hs : SL.Sep ro σ) (d1 : ds.length = ops.length) (hr : RowW tag σ 24 82 6 x36 (List.zipWith opV ops ds))
  (hrows : ∀ (i : Nat) (o : MOp) (d : Sl), ops[i]? = some o → ds[i]? = some d → Row tag σ (47 + 64 * i) 5 d (o.data.map vU)) (hol : ops.length ≤ 2199023255488) (hdl : ∀ o ∈ ops, o.data.length < 4611686018427387904)
  (hK : ∀ tag' σ', StepS [47, 49] ro tag σ tag' σ' → j32_law08_MultiPlays B ro a1 x8 x10 x23 x30 x46 x27 x28 x29 x64a x64b Q Y σ') : lfpD (l75_law08_MultiPlays B ro a1 x8 x10 x23 x30 x36 x46 x27 x28 x29 x64a x64b Q Y) (0 : Int) σ := by
 have hlz : (List.zipWith opV ops ds).length = ops.length := by rw [List.length_zipWith, d1, Nat.min_self]
 suffices ∀ m i tag2 σ2, i + m = ops.length → StepS [47, 49] ro tag σ tag2 σ2 → RowW tag2 σ2 24 82 6 x36 (List.zipWith opV ops ds) → (∀ (i' : Nat) (o : MOp) (d : Sl), i ≤ i' → ops[i']? = some o → ds[i']? = some d → Row tag2 σ2 (47 + 64 * i') 5 d (o.data.map vU)) → lfpD (l75_law08_MultiPlays B ro a1 x8 x10 x23 x30 x36 x46 x27 x28 x29 x64a x64b Q Y) (i : Int) σ2 from
  this _ 0 tag σ (Nat.zero_add _) (StepS.refl hs) hr fun i' o d _ => hrows i' o d
 intro m
 induction m with
 | zero =>
  intro i tag2 σ2 hi st2 r2 _
  have hln := RowW.len r2
  refine lfpD.intro ?_
  unfold l75_law08_MultiPlays
  rw [if_neg (by omega)]
  exact hK tag2 σ2 st2
 | succ m ih =>
  intro i tag2 σ2 hi st2 r2 rows
  have hln := RowW.len r2
  have hil : i < ops.length := by omega
  have hid : i < ds.length := by omega
  have hz : (List.zipWith opV ops ds)[i]? = some (opV ops[i] ds[i]) := by
   rw [List.getElem?_zipWith, List.getElem?_eq_getElem hil, List.getElem?_eq_getElem hid]; try rfl
  obtain ⟨bq, hbq, _, hget⟩ := RowW.get r2 st2.sep hz
  have ri := rows i ops[i] ds[i] (Nat.le_refl _) (List.getElem?_eq_getElem hil) (List.getElem?_eq_getElem hid)
  have hdi := hdl _ (List.getElem_mem hil)
  refine lfpD.intro ?_
  unfold l75_law08_MultiPlays
  rw [if_pos (by omega)]
  refine ⟨_, hbq, by omega, by omega, ops[i].kind, S ops[i].path, ds[i], ops[i].ver, ops[i].eph, ops[i].seq, cellsAt_of 0 fun k v hv => ?_, ?_⟩
  ·rw [Nat.zero_add, Int.toNat_natCast, add_add, add_add, Nat.zero_add]
   exact hget k v hv
  refine nw_st (tag := tag2) 49 st2.sep rfl (by simp [storable, Sl.v]) fun X tag3 σ3 st3 r3 => ?_
  have r3' : Row tag3 σ3 49 82 ⟨some ⟨X, 0, none⟩, 6, 6⟩ (opV ops[i] ds[i]) := r3
  obtain ⟨p3, hp3, hg3⟩ := r3.ptr (st3 []).sep (by simp)
  cases hp3
  refine ⟨ds[i], hg3 2 _ rfl, ?_⟩
  have ri3 := ri.keep (st3 [])
  have evB : ops[i].data.map vU = (ops[i].data.map fun c => (c.toNat : Int)).map vB := by rw [List.map_map]; rfl
  rw [evB] at ri3
  refine flip8_ok (st3 []).sep ri3 (by omega) r3' (by rw [List.length_map]; omega) fun σ4 st4 => ?_
  rw [Pa.inc i (by omega)]
  refine ih (i + 1) tag3 σ4 (by omega) (st2.trans (((st3 []).s (by simp)).trans (st4.s (by simp)))) ((RowW.keep r2 (st3 [])).keep st4 (by simp; omega)) fun i' o d hle ho hd => ?_
  exact ((rows i' o d (by omega) ho hd).keep (st3 [])).keep st4 (by simp; omega)
theorem plays_cmp {a1 os rs1 es1 rs2 es2 : Sl} {T U b X8 X10 : Nat} {st : St} {t : Txn} {x30 bad err : Int} {res : List (Str × Int)} {eff : List (Int × Str)} {Q : Bool → AH → Prop} {Y : Option Addr × Int → AH → Prop} (g : Glob ro) (hs : SL.Sep ro σ) (hT : TreeIs tag σ 10 T st) (hU : RefIs tag σ 11 U (srt st)) (hi : InvB b st) (hb : b ≤ 1073741824)
  (r8 : Row tag σ 46 72 ⟨some ⟨X8, 0, none⟩, 6, 6⟩ (txV t os)) (r10 : Row tag σ 48 77 ⟨some ⟨X10, 0, none⟩, 3, 3⟩ [Sl.v rs1, Sl.v es1, vI bad]) (hhl : t.home.length ≤ 4611686018427387903)
  (q1 : RowW tag σ 14 84 2 rs1 (res.map resV)) (q2 : RowW tag σ 15 108 2 es1 (eff.map effV)) (q3 : RowW tag σ 40 175 2 rs2 (res.map resV)) (q4 : RowW tag σ 41 180 2 es2 (eff.map effV)) (hrl : res.length ≤ 1024) (hel : eff.length ≤ 1024)
  (hK : ∀ st' tag' σ', InvB b st' → SL.Sep ro σ' → TreeIs tag' σ' 10 T st' → RefIs tag' σ' 11 U (srt st') → Y (some ⟨U, 0, none⟩, i64.wrap (x30 + 1)) σ') :
  j32_law08_MultiPlays B ro a1 X8 X10 (some ⟨T, 0, none⟩) x30 err (some ⟨U, 0, none⟩) rs2 es2 bad err Q Y σ := by
 unfold j32_law08_MultiPlays
 rw [if_neg (by simp)]
 obtain ⟨p, hp, hg⟩ := r10.ptr hs (by simp)
 cases hp
 refine ⟨bad, hg 2 _ rfl, ?_⟩
 unfold j33_law08_MultiPlays
 rw [if_neg (by simp)]
 refine ⟨rs1, by have := hg 0 _ rfl; rwa [Nat.zero_mul, add_zero] at this, ?_⟩
 refine sameResults_ok q1 q3 (by omega) fun _ => ?_
 unfold j35_law08_MultiPlays
 rw [if_neg (by simp)]
 refine ⟨es1, hg 1 _ rfl, ?_⟩
 refine sameEffects_ok q2 q4 (by omega) fun _ => ?_
 exact plays_sweep g hs hT hU hi hb r8 hhl hK
end Zt
namespace Zt
open Go SL G Pa
theorem c5 : prog.cellsOf 5 = 1 := by kernel_rfl
theorem c3 : prog.cellsOf 3 = 1 := by kernel_rfl
theorem c9 : prog.cellsOf 9 = 1 := by kernel_rfl
theorem c30 : prog.cellsOf 30 = 1 := by kernel_rfl
theorem c4 : prog.cellsOf 4 = 1 := by kernel_rfl
theorem b5 : prog.bytesOf 5 = 1 := by kernel_rfl
theorem u4b : prog.underlying 4 = some .bool := by kernel_rfl
theorem u3' : prog.underlying 3 = some (.int .i64) := by kernel_rfl
theorem u4' : prog.underlying 4 = some .bool := by kernel_rfl
theorem bytes_of {W : World} {H : Type} {enc : TypeId × Value → H} {a : Option Addr} {len cap : Nat} (h : Arg prog W H enc 30 [.slice a len cap]) : ∃ d : Str, d.length ≤ 140737488351232 ∧ SL.Read (all W) (fun _ => none) ⟨a, len, cap⟩ (d.map vU) := by
 rcases h.slice u30 with ⟨rfl, rfl, rfl⟩ | ⟨x, rfl, hl, hb, hel⟩
 ·exact ⟨[], by decide, rfl, fun _ => rfl, fun p h => by cases h⟩
 ·rw [c5] at hel
  rw [b5, Nat.mul_one] at hb
  have key : ∀ j : Nat, ∃ c : UInt8, j < len → W.cell? (x.add j) = some (vU c) := fun j => by
   by_cases hj : j < len
   ·obtain ⟨cs, h1, h2, h3⟩ := hel j hj
    match cs, h1 with
    | [u], _ =>
     obtain ⟨c, rfl⟩ := h3.u8 u5
     have := h2 0 (by omega)
     rw [Nat.mul_one, add_zero] at this
     exact ⟨c, fun _ => this⟩
   ·exact ⟨0, fun h => absurd h hj⟩
  obtain ⟨f, hf⟩ := Classical.axiomOfChoice key
  refine ⟨(List.range len).map f, by simp [reachBytes] at hb ⊢; omega, by simp, (fun h => by cases h), fun p hp i v hv => ?_⟩
  cases hp
  have hi : i < len := by
   rcases Nat.lt_or_ge i len with h | h
   ·exact h
   ·rw [List.getElem?_eq_none (by simpa using h)] at hv; cases hv
  rw [List.getElem?_map, List.getElem?_map, List.getElem?_range hi] at hv
  cases hv
  exact all_cell _ (hf i hi)
theorem c82 : prog.cellsOf 82 = 6 := by kernel_rfl
theorem b82 : prog.bytesOf 82 = 64 := by kernel_rfl
theorem c72 : prog.cellsOf 72 = 6 := by kernel_rfl
theorem c69 : prog.cellsOf 69 = 2 := by kernel_rfl
theorem c70 : prog.cellsOf 70 = 1 := by kernel_rfl
theorem u70 : prog.underlying 70 = some (.slice 82) := by kernel_rfl
theorem u67 : prog.underlying 67 = some (.slice 72) := by kernel_rfl
theorem u82 : ∃ fs, prog.underlying 82 = some (.struct fs) ∧ fs.toList.map (fun f => (f.type, f.offset)) = [(3, 0), (9, 1), (30, 2), (3, 3), (4, 4), (4, 5)] := ⟨_, underlying82, rfl⟩
theorem u69 : ∃ fs, prog.underlying 69 = some (.struct fs) ∧ fs.toList.map (fun f => (f.type, f.offset)) = [(3, 0), (3, 1)] := ⟨_, underlying69, rfl⟩
theorem u72 : ∃ fs, prog.underlying 72 = some (.struct fs) ∧ fs.toList.map (fun f => (f.type, f.offset)) = [(9, 0), (3, 1), (69, 2), (70, 4), (4, 5)] := ⟨_, underlying72, rfl⟩
theorem fld {W : World} {H : Type} {enc : TypeId × Value → H} {t : TypeId} {cs : List Value} {L : List (TypeId × Nat)} (h : Arg prog W H enc t cs) (hu : ∃ fs, prog.underlying t = some (.struct fs) ∧ fs.toList.map (fun f : Field => (f.type, f.offset)) = L) :
  cs.length = prog.cellsOf t ∧ ∀ (i : Nat) (t' : TypeId) (o : Nat), L[i]? = some (t', o) → Arg prog W H enc t' ((cs.drop o).take (prog.cellsOf t')) := by
 obtain ⟨fs, hu, hfs⟩ := hu
 obtain ⟨hl, hel⟩ := h.struct hu
 refine ⟨hl, fun i t' o hi => ?_⟩
 rw [← hfs, List.getElem?_map] at hi
 obtain ⟨f, hf, e⟩ := Option.map_eq_some_iff.1 hi
 have := hel i f hf
 simp only [Prod.mk.injEq] at e
 rw [e.1, e.2] at this
 exact this
theorem isSl {W : World} {H : Type} {enc : TypeId × Value → H} {t e : TypeId} {v : Value} (hu : prog.underlying t = some (.slice e)) (h : Arg prog W H enc t [v]) : ∃ a len cap, v = .slice a len cap := by
 obtain ⟨fuel, d, ps, hf, _⟩ := h
 rcases Go.Deep.open_slice hu hf with ⟨e, _⟩ | ⟨x, l, c, _, _, _, _, e, _⟩
 ·simp at e; exact ⟨_, _, _, e⟩
 ·simp at e; exact ⟨_, _, _, e⟩
theorem mop_of {W : World} {H : Type} {enc : TypeId × Value → H} {cs : List Value} (h : Arg prog W H enc 82 cs) :
  ∃ (o : MOp) (ds : Sl), cs = opV o ds ∧ o.data.length ≤ 140737488351232 ∧ SL.Read (all W) (fun _ => none) ds (o.data.map vU) := by
 obtain ⟨hl, get⟩ := fld h u82
 rw [c82] at hl
 match cs, hl with
 | [v0, v1, v2, v3, v4, v5], _ =>
  have a0 := get 0 _ _ rfl
  have a1 := get 1 _ _ rfl
  have a2 := get 2 _ _ rfl
  have a3 := get 3 _ _ rfl
  have a4 := get 4 _ _ rfl
  have a5 := get 5 _ _ rfl
  rw [c3] at a0 a3
  rw [c9] at a1
  rw [c30] at a2
  rw [c4] at a4 a5
  obtain ⟨x0, rfl⟩ := Arg.i64 u3' a0
  obtain ⟨x1, rfl⟩ := Arg.i64 u3' a3
  obtain ⟨s, rfl, _⟩ := Arg.str u9 a1
  obtain ⟨b, rfl⟩ := Arg.bool u4' a4
  obtain ⟨b2, rfl⟩ := Arg.bool u4' a5
  obtain ⟨a, len, cap, rfl⟩ := isSl u30 a2
  obtain ⟨d, h1, h2⟩ := bytes_of a2
  exact ⟨⟨x0, L s, d, x1, b, b2⟩, ⟨a, len, cap⟩, by simp [opV, Sl.v], h1, h2⟩
theorem mops_of {W : World} {H : Type} {enc : TypeId × Value → H} {a : Option Addr} {len cap : Nat} (h : Arg prog W H enc 70 [.slice a len cap]) :
  ∃ os : List MOp, OpsR (all W) ⟨a, len, cap⟩ os ∧ os.length ≤ 2199023255488 := by
 rcases h.slice u70 with ⟨rfl, rfl, rfl⟩ | ⟨x, rfl, hl, hb, hel⟩
 ·exact ⟨[], ⟨rfl, fun j o h => by cases h⟩, by decide⟩
 ·rw [c82] at hel
  rw [b82] at hb
  have key : ∀ j : Nat, ∃ q : MOp × Sl, j < len → (∀ σ, cellsAt (all W) σ (x.add (j * 6)) 0 (opV q.1 q.2)) ∧ q.1.data.length ≤ 140737488351232 ∧ SL.Read (all W) (fun _ => none) q.2 (q.1.data.map vU) := fun j => by
   by_cases hj : j < len
   ·obtain ⟨cs, h1, h2, h3⟩ := hel j hj
    obtain ⟨o, ds, rfl, h4, h5⟩ := mop_of h3
    refine ⟨(o, ds), fun _ => ⟨fun σ => cellsAt_of 0 fun i v hv => ?_, h4, h5⟩⟩
    have hi : i < 6 := by
     rcases Nat.lt_or_ge i 6 with h | h
     ·exact h
     ·rw [List.getElem?_eq_none (by simpa [opV] using h)] at hv; cases hv
    have := h2 i hi
    rw [hv] at this
    rw [Nat.zero_add]
    exact all_cell σ this
   ·exact ⟨(⟨0, [], [], 0, false, false⟩, ⟨none, 0, 0⟩), fun h => absurd h hj⟩
  obtain ⟨f, hf⟩ := Classical.axiomOfChoice key
  refine ⟨(List.range len).map fun j => (f j).1, ⟨by simp, fun j o ho => ?_⟩, by simp [reachBytes] at hb ⊢; omega⟩
  have hj : j < len := by
   rcases Nat.lt_or_ge j len with h | h
   ·exact h
   ·rw [List.getElem?_eq_none (by simpa using h)] at ho; cases ho
  rw [List.getElem?_map, List.getElem?_range hj] at ho
  cases ho
  obtain ⟨h1, h2, h3⟩ := hf j hj
  exact ⟨x, (f j).2, rfl, h1, h3, h2⟩
theorem txn_of {W : World} {H : Type} {enc : TypeId × Value → H} {cs : List Value} (h : Arg prog W H enc 72 cs) :
  ∃ (t : Txn) (os : Sl), cs = txV t os ∧ t.home.length ≤ reachBytes ∧ OpsR (all W) os t.ops ∧ t.ops.length ≤ 2199023255488 := by
 obtain ⟨hl, get⟩ := fld h u72
 rw [c72] at hl
 match cs, hl with
 | [v0, v1, v2, v3, v4, v5], _ =>
  have a0 := get 0 _ _ rfl
  have a1 := get 1 _ _ rfl
  have a2 := get 2 _ _ rfl
  have a3 := get 3 _ _ rfl
  have a4 := get 4 _ _ rfl
  rw [c9] at a0
  rw [c3] at a1
  rw [c69] at a2
  rw [c70] at a3
  rw [c4] at a4
  obtain ⟨s, rfl, hsl⟩ := Arg.str u9 a0
  obtain ⟨x1, rfl⟩ := Arg.i64 u3' a1
  obtain ⟨_, get2⟩ := fld a2 u69
  have q0 := get2 0 _ _ rfl
  have q1 := get2 1 _ _ rfl
  rw [c3] at q0 q1
  obtain ⟨y0, rfl⟩ := Arg.i64 u3' q0
  obtain ⟨y1, rfl⟩ := Arg.i64 u3' q1
  obtain ⟨a, len, cap, rfl⟩ := isSl u70 a3
  obtain ⟨b, rfl⟩ := Arg.bool u4' a4
  obtain ⟨os, h1, h2⟩ := mops_of a3
  exact ⟨⟨L s, x1, y0, y1, os, b⟩, ⟨a, len, cap⟩, by simp [txV, Sl.v], by simpa [L_len] using hsl, h1, h2⟩
theorem u25 : prog.underlying 25 = some (.slice 9) := by kernel_rfl
theorem strings_of {W : World} {H : Type} {enc : TypeId × Value → H} {a : Option Addr} {len cap : Nat} (h : Arg prog W H enc 25 [.slice a len cap]) : ∃ hs : List Str, hs.length = len ∧ (∀ x ∈ hs, x.length ≤ reachBytes) ∧ SL.Read (all W) (fun _ => none) ⟨a, len, cap⟩ (hs.map Pa.vS) := by
 rcases h.slice u25 with ⟨rfl, rfl, rfl⟩ | ⟨x, rfl, hl, hb, hel⟩
 ·exact ⟨[], rfl, by simp, rfl, fun _ => rfl, fun p h => by cases h⟩
 ·rw [c9] at hel
  have key : ∀ j : Nat, ∃ c : Str, j < len → W.cell? (x.add j) = some (Pa.vS c) ∧ c.length ≤ reachBytes := fun j => by
   by_cases hj : j < len
   ·obtain ⟨cs, h1, h2, h3⟩ := hel j hj
    match cs, h1 with
    | [u], _ =>
     obtain ⟨c, rfl, hc⟩ := Arg.str u9 h3
     have := h2 0 (by omega)
     rw [Nat.mul_one, add_zero] at this
     exact ⟨L c, fun _ => ⟨by rw [this]; simp [Pa.vS], by rw [L_len]; exact hc⟩⟩
   ·exact ⟨[], fun h => absurd h hj⟩
  obtain ⟨f, hf⟩ := Classical.axiomOfChoice key
  refine ⟨(List.range len).map f, by simp, fun y hy => ?_, by simp, (fun h => by cases h), fun p hp i v hv => ?_⟩
  ·obtain ⟨j, hj, rfl⟩ := List.mem_map.1 hy
   exact (hf j (List.mem_range.1 hj)).2
  ·cases hp
   have hi : i < len := by
    rcases Nat.lt_or_ge i len with h | h
    ·exact h
    ·rw [List.getElem?_eq_none (by simpa using h)] at hv; cases hv
   rw [List.getElem?_map, List.getElem?_map, List.getElem?_range hi] at hv
   cases hv
   exact all_cell _ (hf i hi).1
theorem txns_of {W : World} {H : Type} {enc : TypeId × Value → H} {a : Option Addr} {len cap : Nat} (h : Arg prog W H enc 67 [.slice a len cap]) :
  ∃ ts : List Txn, TxsR (all W) ⟨a, len, cap⟩ ts := by
 rcases h.slice u67 with ⟨rfl, rfl, rfl⟩ | ⟨x, rfl, hl, hb, hel⟩
 ·exact ⟨[], ⟨rfl, fun j o h => by cases h⟩⟩
 ·rw [c72] at hel
  have key : ∀ j : Nat, ∃ q : Txn × Sl, j < len → (∀ σ, cellsAt (all W) σ (x.add (j * 6)) 0 (txV q.1 q.2)) ∧ q.1.home.length ≤ reachBytes ∧ OpsR (all W) q.2 q.1.ops ∧ q.1.ops.length ≤ 2199023255488 := fun j => by
   by_cases hj : j < len
   ·obtain ⟨cs, h1, h2, h3⟩ := hel j hj
    obtain ⟨o, ds, rfl, h4, h5⟩ := txn_of h3
    refine ⟨(o, ds), fun _ => ⟨fun σ => cellsAt_of 0 fun i v hv => ?_, h4, h5⟩⟩
    have hi : i < 6 := by
     rcases Nat.lt_or_ge i 6 with h | h
     ·exact h
     ·rw [List.getElem?_eq_none (by simpa [txV] using h)] at hv; cases hv
    have := h2 i hi
    rw [hv] at this
    rw [Nat.zero_add]
    exact all_cell σ this
   ·exact ⟨(⟨[], 0, 0, 0, [], false⟩, ⟨none, 0, 0⟩), fun h => absurd h hj⟩
  obtain ⟨f, hf⟩ := Classical.axiomOfChoice key
  refine ⟨(List.range len).map fun j => (f j).1, ⟨by simp, fun j o ho => ?_⟩⟩
  have hj : j < len := by
   rcases Nat.lt_or_ge j len with h | h
   ·exact h
   ·rw [List.getElem?_eq_none (by simpa using h)] at ho; cases ho
  rw [List.getElem?_map, List.getElem?_range hj] at ho
  cases ho
  obtain ⟨h1, h2, h3, h4⟩ := hf j hj
  exact ⟨x, (f j).2, rfl, h1, h2, h3, h4⟩
end Zt
namespace Zt
open Go SL G Pa Wi
variable {B : World} {ro σ σ' : AH} {tag tag' : Nat → Nat}
theorem applyL_small {home : Str} {owner qn qb : Int} : ∀ {os : List MOp} {i : Nat} {w w' : Work}, applyL home owner qn qb os i w = .inr w' → w'.res.length ≤ w.res.length + os.length ∧ w'.eff.length ≤ w.eff.length + os.length := by
 intro os
 induction os with
 | nil => intro i w w' h; cases h; exact ⟨by simp, by simp⟩
 | cons o os ih =>
  intro i w w' h
  unfold applyL at h
  split at h
  ·cases h
  ·have h1 := ih h
   have h2 := doE_len (home := home) (owner := owner) (qn := qn) (qb := qb) (w := w) (o := o)
   simp only [List.length_cons]
   exact ⟨by omega, by omega⟩
theorem applyE_small {home : Str} {owner qn qb : Int} {st : St} {os : List MOp} : (applyE st home owner qn qb os).res.length ≤ 16 ∧ (applyE st home owner qn qb os).eff.length ≤ 16 := by
 unfold applyE
 split
 ·exact ⟨by simp, by simp⟩
 ·rename_i hl
  split
  ·exact ⟨by simp, by simp⟩
  ·cases e : applyL home owner qn qb os 0 ⟨srt st, [], []⟩ with
   | inl x => exact ⟨by simp [doneOf], by simp [doneOf]⟩
   | inr w =>
    obtain ⟨h1, h2⟩ := applyL_small e
    simp only [List.length_nil, Nat.zero_add] at h1 h2
    simp only [doneOf]
    exact ⟨by omega, by omega⟩
theorem plays8_ok {a0 a1 : Sl} {hs : List Str} {txs : List Txn} (g : Glob ro) (hrd : SL.Read ro (fun _ => none) a0 (hs.map Pa.vS)) (hhs : hs.length ≤ 1048576) (hhh : ∀ h ∈ hs, h.length ≤ 4611686018427387903) (hT : TxsR ro a1 txs) (hl : txs.length ≤ 1048576) :
  c_law08_MultiPlays B ro a0 a1 σ fun r _ => r = true := by
 refine law08_MultiPlays_ok fun hsep => ?_
 unfold f_law08_MultiPlays
 refine start_ok (tag := fun _ => 0) (hs := hs) 10 g (by decide) (by decide) (by decide) (fun tag' σ' st => hrd.keep) (by omega) hhh fun T tag1 σ1 st1 h1 hi1 => ?_
 refine begin_ok (tag := tag1) hrd (by omega) hhh fun U tag2 σ2 st2 hU2 => ?_
 rw [if_neg (by simp)]
 have hal : a1.len = txs.length := hT.1
 suffices ∀ (m j U : Nat) (st : St) (tag7 : Nat → Nat) (σ7 : AH), j + m = txs.length → SL.Sep ro σ7 → TreeIs tag7 σ7 10 T st → RefIs tag7 σ7 11 U (srt st) → InvB (hs.length + 16 * j) st → lfpD (l5_law08_MultiPlays B ro a1 (some ⟨T, 0, none⟩) fun r _ => r = true) (some ⟨U, 0, none⟩, (j : Int)) σ7 from
  this _ 0 U _ tag2 σ2 (Nat.zero_add _) st2.sep (h1.keepS st2) hU2 hi1
 intro m
 induction m with
 | zero =>
  intro j U st tag7 σ7 hj hs7 h7 hU7 hi7
  refine lfpD.intro ?_
  unfold l5_law08_MultiPlays
  simp only
  rw [if_neg (by omega)]
  unfold j3_law08_MultiPlays
  exact awake8_ok g fun σ _ => rfl
 | succ m ih =>
  intro j U st tag7 σ7 hj hs7 h7 hU7 hi7
  have hjl : j < txs.length := by omega
  obtain ⟨q, os, hq, hc, hth, hO, hol⟩ := hT.2 j txs[j] (List.getElem?_eq_getElem hjl)
  generalize txs[j] = t at hc hth hO hol
  have hhl : t.home.length ≤ 4611686018427387903 := Nat.le_trans hth (by decide)
  refine lfpD.intro ?_
  unfold l5_law08_MultiPlays
  simp only
  rw [if_pos (by omega)]
  refine ⟨q, hq, by omega, by omega, S t.home, t.owner, t.qn, t.qb, os, t.sweep, by rw [Int.toNat_natCast]; exact hc σ7, ?_⟩
  refine nw_st (tag := tag7) 46 hs7 rfl (by simp [storable, Sl.v]) fun X8 tag8 σ8 st8 r8 => ?_
  have r8' : Row tag8 σ8 46 72 ⟨some ⟨X8, 0, none⟩, 6, 6⟩ (txV t os) := r8
  have hs8 := (st8 []).sep
  have cellX : ∀ tag' σ', SL.Sep ro σ' → Row tag' σ' 46 72 ⟨some ⟨X8, 0, none⟩, 6, 6⟩ (txV t os) → ∀ i v, (txV t os)[i]? = some v → acell ro σ' ((⟨X8, 0, none⟩ : Addr).add i) = some v := fun tag' σ' h r i v hv => by
   obtain ⟨p, hp, hg⟩ := r.ptr h (by simp [txV])
   cases hp
   have := hg i v hv
   rwa [Nat.mul_one] at this
  refine ⟨os, cellX _ _ hs8 r8' 4 _ rfl, ?_⟩
  have hdr : ∀ i : Nat, (47 + 64 * i) % 64 = 47 := fun i => by omega
  refine copiedD_in (tag := tag8) (fun i => 47 + 64 * i) (fun i => by rw [hdr]; decide) (fun _ σ' _ => hO.m σ') hol fun s9 tag9 σ9 st9 ho9 => ?_
  have r89 := r8'.keepS st9
  have h9 := (h7.keep (st8 [])).keepS st9
  have hU9 := (hU7.keep (st8 [])).keepS st9
  have c0 := cellX _ _ st9.sep r89 0 _ rfl
  rw [add_zero] at c0
  refine ⟨S t.home, c0, t.owner, cellX _ _ st9.sep r89 1 _ rfl, t.qn, t.qb, cellsAt_of 0 fun i v hv => ?_, ?_⟩
  ·have e2 : (((⟨X8, 0, none⟩ : Addr).add 2).add (0 + i)) = (⟨X8, 0, none⟩ : Addr).add (2 + i) := by rw [Nat.zero_add]; simp only [add_add]; simp only [Nat.add_assoc]
   rw [e2]
   refine (cellX _ _ st9.sep r89 (2 + i) v ?_)
   rcases i with _ | _ | i
   ·exact hv
   ·exact hv
   ·cases hv
  refine applyD_ok (dr := fun i => 47 + 64 * i) (b := hs.length + 16 * j) (q := 24) g (by decide) (by decide) (by decide) (by decide) (by decide) (by decide) h9 hi7 (by omega) (fun i => by rw [hdr]; decide) ho9 hO.data hhl fun rs es tag10 σ10 st10 h10 rr10 re10 => ?_
  have hi10 := applyE_inv (home := t.home) (owner := t.owner) (qn := t.qn) (qb := t.qb) (ops := t.ops) hi7 (by omega)
  obtain ⟨sm1, sm2⟩ := applyE_small (home := t.home) (owner := t.owner) (qn := t.qn) (qb := t.qb) (st := st) (os := t.ops)
  have r810 := r89.keepS st10
  have hU10 := hU9.keepS st10
  have ho10 := ho9.keepS st10 (by decide) (fun i => by rw [hdr]; decide)
  refine nw_st (tag := tag10) 48 st10.sep rfl (by simp [storable, Sl.v]) fun X10 tag11 σ11 st11 r11 => ?_
  have hs11 := (st11 []).sep
  have r811 := r810.keep (st11 [])
  have h11 := h10.keep (st11 [])
  have hU11 := hU10.keep (st11 [])
  have ho11 := ho10.keepS ((st11 []).s (C := []) (by simp)) (by simp) (by simp)
  have rr11 := RowW.keep rr10 (st11 [])
  have re11 := RowW.keep re10 (st11 [])
  obtain ⟨tX, o1, hX⟩ := r811.tagOf
  have hsl : SL.Sep (join ro (SL.one σ11 X8)) (SL.del σ11 X8) := hs11.lent
  have c8 : ∀ (τ : AH) i v, (txV t os)[i]? = some v → acell (join ro (SL.one σ11 X8)) τ ((⟨X8, 0, none⟩ : Addr).add i) = some v := fun τ i v hv => by
   have := r811.lend hs11 (τ := τ) hv
   rwa [Nat.mul_one] at this
  refine lent_block X8 ?_
  have d0 := c8 (fun _ => none) 0 _ rfl
  rw [add_zero] at d0
  refine ⟨S t.home, d0, t.owner, c8 _ 1 _ rfl, t.qn, c8 _ 2 _ rfl, t.qb, by have := c8 (fun _ => none) 3 _ rfl; rw [add_add]; exact this, os, c8 _ 4 _ rfl, ?_⟩
  refine opsR_ok (tag := tag11) (q := 42) (by decide) (by decide) (by decide) hO.ro' hol fun s12 tag12 σ12 st12 ho12 => ?_
  have hUd := hU11.del (b := X8) tX (by decide) (by decide) (by decide)
  refine rapply_ok (tag := tag12) (q := 42) (b := hs.length + 16 * j) (by decide) (hUd.keepS st12) hi7 (by omega) ho12 fun U' rs2 es2 tag13 σ13 st13 hU13 rr13 re13 => ?_
  intro hdis
  have k : StepS (42 :: DQ) (join ro (SL.one σ11 X8)) tag11 (SL.del σ11 X8) tag13 σ13 := (st12.mono (by decide)).trans (st13.mono (by decide))
  have kb := StepS.back k hs11 hdis ⟨_, hX⟩
  have hUb := hU13.back (q := tag11 X8) hdis ⟨_, hX⟩
  have rrb := RowW.back (r' := tag11 X8) rr13 hdis ⟨_, hX⟩
  have reb := RowW.back (r' := tag11 X8) re13 hdis ⟨_, hX⟩
  have hb11 := h11.keepS kb
  have r8b := r811.keepS kb
  have r10b := r11.keepS kb
  have rrb1 := RowW.keepS rr11 kb
  have reb1 := RowW.keepS re11 kb
  obtain ⟨ds, d1, d2, d3⟩ := ho11.keepS kb (by decide) (fun i => by rw [hdr]; decide)
  generalize join (SL.one σ11 X8) σ13 = τ at kb hUb rrb reb hb11 r8b r10b rrb1 reb1 d2 d3
  generalize setTag tag13 X8 (tag11 X8) = tag14 at kb hUb rrb reb hb11 r8b r10b rrb1 reb1 d2 d3
  refine flips_ok (tag := tag14) (ops := t.ops) (ds := ds) kb.sep d1 d2 d3 hol hO.data fun tag15 σ15 st15 => ?_
  refine plays_cmp (tag := tag15) (os := os) g st15.sep (hb11.keepS st15) (hUb.keepS st15) hi10 (by omega) (r8b.keepS st15) (r10b.keepS st15) hhl (RowW.keepS rrb1 st15) (RowW.keepS reb1 st15) (RowW.keepS rrb st15) (RowW.keepS reb st15) (by omega) (by omega) fun st' tag16 σ16 hi16 hs16 h16 hU16 => ?_
  rw [Pa.inc j (by omega)]
  exact ih (j + 1) U' st' tag16 σ16 (by omega) hs16 h16 hU16 (by rw [show hs.length + 16 * (j + 1) = hs.length + 16 * j + 16 by omega]; exact hi16)
end Zt
end Go.Proofs.YthfpmipeejjogaaGreatDoor
