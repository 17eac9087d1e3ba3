/- DgA, CkA, MapN, CkB, StP, CkC, CkD, CkE, DkA -/
import Derived.Test.YtfobjidchipdaaaGreatDoorXI
/- A snapshot's digest, the walk. -/
namespace Go.Proofs.YtfobjidchipdaaaGreatDoor.Sn
open Go Go.Proofs.YtfobjidchipdaaaGreatDoor.SL Go.Proofs.YtfobjidchipdaaaGreatDoor.G Go.Proofs.YtfobjidchipdaaaGreatDoor.Pa Go.Proofs.YtfobjidchipdaaaGreatDoor.Wi
set_option linter.unusedSimpArgs false
set_option linter.unusedVariables false
set_option maxRecDepth 100000
variable {B : World} {ro σ σ' : AH} {tag tag' : Nat → Nat}
theorem digestOf_ok {s : Sl} {l : Str} {Q : Int → Int → AH → Prop} (hx : ∀ tag' σ', Step [] ro tag σ tag' σ' → SL.Read ro σ' s (l.map Zt.vU)) (hl : l.length < 4611686018427387904) (hQ : ∀ tag' σ', Step [0] ro tag σ tag' σ' → Q (l.length : Nat) (crc l : Nat) σ') : c_snap_digestOf B ro s σ Q := by
  refine snap_digestOf_ok fun hs => ?_
  unfold f_snap_digestOf
  have hln : s.len = l.length := by have := (hx tag σ (Step.refl hs)).1; rw [this, List.length_map]
  refine nw_cells (tag := tag) 0 hs fun x tag1 σ1 st1 r1 => ?_
  refine sum_ok (hx _ _ (st1 [])) hl ?_
  refine r1.stAll (st1 []).sep rfl (by simp [storable]) fun σ2 st2 r2 => ?_
  obtain ⟨p, hp, hg⟩ := r2.ptr st2.sep (by simp)
  cases hp
  refine ⟨(s.len : Int), (crc l : Nat), cellsAt_of 0 fun j v hj => by have := hg j v hj; rwa [Nat.mul_one, ← Nat.zero_add j] at this, ?_⟩
  rw [hln]
  exact hQ tag1 σ2 ((st1 _).trans st2)
end Go.Proofs.YtfobjidchipdaaaGreatDoor.Sn

/- Chunks: what they are, and how one is read. -/
namespace Go.Proofs.YtfobjidchipdaaaGreatDoor.Wi
open Go Go.Proofs.YtfobjidchipdaaaGreatDoor.SL
theorem Tail.outR {tag : Nat → Nat} {σ : AH} {L : List Nat} {q : Nat} {s : Sl} {l : Str} (h : Tail tag σ q s l) (hq : q ∉ L) : Tail tag (SL.outR tag L σ) q s l := by
  rcases h with h | ⟨g, cs, k, h1, h2, h3, h4⟩
  · exact .inl h
  · exact .inr ⟨g, cs, k, h1, h2, by unfold SL.outR; rw [if_neg (by rw [h2]; exact hq)]; exact h3, h4⟩
theorem RdAt.outR {tag : Nat → Nat} {σ : AH} {L : List Nat} {r A : Nat} {y : Rd} (h : RdAt tag σ r A y) (hr : r ∉ L) (h6 : 6 ∉ L) : RdAt tag (SL.outR tag L σ) r A y := by
  obtain ⟨s, h1, h2, h3⟩ := h
  exact ⟨s, h1.outR hr, h2.outR h6, h3⟩
end Go.Proofs.YtfobjidchipdaaaGreatDoor.Wi
namespace Go.Proofs.YtfobjidchipdaaaGreatDoor.Sn
open Go Go.Proofs.YtfobjidchipdaaaGreatDoor.SL Go.Proofs.YtfobjidchipdaaaGreatDoor.G Go.Proofs.YtfobjidchipdaaaGreatDoor.Pa Go.Proofs.YtfobjidchipdaaaGreatDoor.Wi
set_option linter.unusedSimpArgs false
set_option linter.unusedVariables false
set_option maxRecDepth 100000
variable {B : World} {ro σ σ' : AH} {tag tag' : Nat → Nat}
abbrev vI := Zt.vI
abbrev vU := Zt.vU
structure Ck where
  number : Nat
  count : Nat
  at' : Nat
  length : Nat
  sum : Nat
  part : Str
def encCk (c : Ck) : Str := vput c.number ++ (vput c.count ++ (vput c.at' ++ (vput c.length ++ (vput c.sum ++ (blob c.part ++ [])))))
def Ck.right (c : Ck) : Prop := c.number < 4611686018427387904 ∧ c.count < 4611686018427387904 ∧ c.at' < 4611686018427387904 ∧ c.length < 4611686018427387904 ∧ c.sum < 4611686018427387904 ∧ c.part.length < 4611686018427387904
def x1 (b : Str) := rnum ⟨b, 0⟩
def x2 (b : Str) := rnum (x1 b).2
def x3 (b : Str) := rnum (x2 b).2
def x4 (b : Str) := rnum (x3 b).2
def x5 (b : Str) := rnum (x4 b).2
def x6 (b : Str) := rblob (x5 b).2
def ckOf (b : Str) : Ck := ⟨(x1 b).1, (x2 b).1, (x3 b).1, (x4 b).1, (x5 b).1, (x6 b).1⟩
def ckFits (c : Ck) : Bool := decide (1 ≤ c.count) && (decide (c.count ≤ 1048576) && (decide (c.at' < c.count) && (decide (c.length ≤ 1048576) && decide (c.part.length ≤ c.length))))
def ckOk (b : Str) : Bool := decide ((x6 b).2.err = 0) && (decide ((x6 b).2.rest.length = 0) && ckFits (ckOf b))
theorem read_enc {c : Ck} (h : c.right) : ckOf (encCk c) = c ∧ ckOk (encCk c) = ckFits c := by
  obtain ⟨h1, h2, h3, h4, h5, h6⟩ := h
  have e1 : x1 (encCk c) = _ := rnum_put h1 _
  have e2 : x2 (encCk c) = (c.count, ⟨vput c.at' ++ (vput c.length ++ (vput c.sum ++ (blob c.part ++ []))), 0⟩) := by
    unfold x2; rw [e1]; exact rnum_put h2 _
  have e3 : x3 (encCk c) = (c.at', ⟨vput c.length ++ (vput c.sum ++ (blob c.part ++ [])), 0⟩) := by
    unfold x3; rw [e2]; exact rnum_put h3 _
  have e4 : x4 (encCk c) = (c.length, ⟨vput c.sum ++ (blob c.part ++ []), 0⟩) := by
    unfold x4; rw [e3]; exact rnum_put h4 _
  have e5 : x5 (encCk c) = (c.sum, ⟨blob c.part ++ [], 0⟩) := by
    unfold x5; rw [e4]; exact rnum_put h5 _
  have e6 : x6 (encCk c) = (c.part, ⟨[], 0⟩) := by
    unfold x6; rw [e5]; exact rblob_put h6 _
  have hc : ckOf (encCk c) = c := by unfold ckOf; rw [e1, e2, e3, e4, e5, e6]
  refine ⟨hc, ?_⟩
  unfold ckOk
  rw [hc, e6]; simp
theorem readChunk_ok {b : Str} {s : Sl} {Q : Int → Int → Int → Int → Int → Sl → Bool → AH → Prop} (h : SL.Data ro tag σ s (b.map Zt.vU)) (hl : b.length ≤ 140737488355328)
    (hQ : ∀ s' tag' σ', StepS [7, 8, 31] ro tag σ tag' σ' → Row tag' σ' 6 5 s' ((ckOf b).part.map Zt.vU) → Q (ckOf b).length (ckOf b).sum (ckOf b).number (ckOf b).count (ckOf b).at' s' (ckOk b) σ') : c_snap_readChunk B ro s σ Q := by
  refine snap_readChunk_ok fun hs => ?_
  unfold f_snap_readChunk
  refine nw_cells (tag := tag) 7 hs fun X tag1 σ1 st1 r1 => ?_
  refine newReader_ok (tag := tag1) (r := 31) ((h.keep (st1 []) (by simp)).read (st1 []).sep) (st1 []).sep hl fun A tag2 σ2 st2 d2 => ?_
  refine rdNum_ok d2 (by decide) (st2 []).sep fun σ3 st3 d3 => ?_
  have d3 : RdAt tag2 σ3 31 A (x1 b).2 := d3
  refine nw_cells (tag := tag2) 8 st3.sep fun Y tag4 σ4 st4 r4 => ?_
  refine r4.stAll (st4 []).sep rfl (by simp [storable, Sl.v]) fun σ5 st5 r5 => ?_
  refine rdNum_ok ((d3.keep (st4 []) (by simp) (by simp)).keep st5 (by decide) (by decide)) (by decide) st5.sep fun σ6 st6 d6 => ?_
  have d6 : RdAt tag4 σ6 31 A (x2 b).2 := d6
  refine rdNum_ok d6 (by decide) st6.sep fun σ7 st7 d7 => ?_
  have d7 : RdAt tag4 σ7 31 A (x3 b).2 := d7
  refine rdNum_ok d7 (by decide) st7.sep fun σ8 st8 d8 => ?_
  have d8 : RdAt tag4 σ8 31 A (x4 b).2 := d8
  refine rdNum_ok d8 (by decide) st8.sep fun σ9 st9 d9 => ?_
  have d9 : RdAt tag4 σ9 31 A (x5 b).2 := d9
  refine rdBlob_ok d9 (by decide) st9.sep fun sp tag10 σ10 st10 rp d10 => ?_
  have d10 : RdAt tag10 σ10 31 A (x6 b).2 := d10
  have rp : Row tag10 σ10 6 5 sp ((ckOf b).part.map Zt.vU) := rp
  have st6A : Step [31] ro tag4 σ5 tag10 σ10 := st6.trans (st7.trans (st8.trans (st9.trans st10)))
  have r10 := r5.keep st6A (by decide)
  show stN ((⟨Y, 0, none⟩ : Addr).add (3 * 1)) _ _ _ _
  refine r10.st st10.sep rfl (by simp) rfl fun σ11 st11 r11 => ?_
  show stN ((⟨Y, 0, none⟩ : Addr).add (4 * 1)) _ _ _ _
  refine r11.st st11.sep rfl (by simp) rfl fun σ12 st12 r12 => ?_
  show stN ((⟨Y, 0, none⟩ : Addr).add (0 * 1)) _ _ _ _
  refine r12.st st12.sep rfl (by simp) rfl fun σ13 st13 r13 => ?_
  show stN ((⟨Y, 0, none⟩ : Addr).add (1 * 1)) _ _ _ _
  refine r13.st st13.sep rfl (by simp) rfl fun σ14 st14 r14 => ?_
  show stN ((⟨Y, 0, none⟩ : Addr).add (5 * 1)) _ _ _ _
  refine r14.st st14.sep rfl (by simp) rfl fun σ15 st15 r15 => ?_
  have stW : Step [8] ro tag10 σ10 tag10 σ15 := st11.trans (st12.trans (st13.trans (st14.trans st15)))
  have hs15 := st15.sep
  have d15 := d10.keep stW (by decide) (by decide)
  have rp15 := rp.keep stW (by decide)
  have st1F : StepS [7, 8, 31] ro tag1 σ1 tag10 σ15 := ((st2 []).s (by simp)).trans ((st3.s (by decide)).trans (((st4 []).s (by simp)).trans ((st5.s (by decide)).trans ((st6A.s (by decide)).trans (stW.s (by decide))))))
  have stX : Step [31, 8] ro tag1 σ1 tag10 σ15 := (st2 _).trans ((st3.mono (by decide)).trans ((st4 _).trans ((st5.mono (by decide)).trans ((st6A.mono (by decide)).trans (stW.mono (by decide))))))
  have rX := r1.keep stX (by decide)
  have eR : [Value.int .i64 ((ckOf b).length : Nat), .int .i64 (ckOf b).sum, .int .i64 (ckOf b).number, .int .i64 (ckOf b).count, .int .i64 (ckOf b).at', Sl.v sp] = (((((([Value.int IntKind.i64 0, Value.int IntKind.i64 0, Value.int IntKind.i64 (↑(rnum { rest := b, err := 0 }).fst), Value.int IntKind.i64 0, Value.int IntKind.i64 0, Sl.v ⟨none, 0, 0⟩].set 3 (Value.int IntKind.i64 ((ckOf b).count : Nat))).set 4 (Value.int IntKind.i64 ((ckOf b).at' : Nat))).set 0 (Value.int IntKind.i64 ((ckOf b).length : Nat))).set 1 (Value.int IntKind.i64 ((ckOf b).sum : Nat))).set 5 (Sl.v sp))) := rfl
  have r15 : Row tag10 σ15 8 116 ⟨some ⟨Y, 0, none⟩, 6, 6⟩ [Value.int .i64 ((ckOf b).length : Nat), .int .i64 (ckOf b).sum, .int .i64 (ckOf b).number, .int .i64 (ckOf b).count, .int .i64 (ckOf b).at', Sl.v sp] := by rw [eR]; exact r15
  have hln : sp.len = (ckOf b).part.length := by rw [rp.len, List.length_map]
  refine lent_roles tag10 [8] ?_
  have hsL : SL.Sep (join ro (inR tag10 [8] σ15)) (outR tag10 [8] σ15) := hs15.lentR
  have cY : ∀ τ i v, [Value.int .i64 ((ckOf b).length : Nat), .int .i64 (ckOf b).sum, .int .i64 (ckOf b).number, .int .i64 (ckOf b).count, .int .i64 (ckOf b).at', Sl.v sp][i]? = some v → acell (join ro (inR tag10 [8] σ15)) τ ((⟨Y, 0, none⟩ : Addr).add i) = some v := fun τ i v hv => r15.lendR hs15 (by decide) rfl hv
  refine ⟨_, _, _, _, _, _, cellsAt_of 0 fun i v hv => by rw [Nat.zero_add]; exact cY _ i v hv, ?_⟩
  have dL := d15.outR (L := [8]) (by decide) (by decide)
  have rL := rX.outR (L := [8]) (by decide)
  -- the last part
  have fin : ∀ ok, ok = ckOk b → stN ⟨X, 0, none⟩ (fun σ => (Disj (inR tag10 [8] σ15) σ → (fun σ => j10_snap_readChunk B ro X Q ok σ) (join (inR tag10 [8] σ15) σ))) [Value.int .i64 ((ckOf b).length : Nat), .int .i64 (ckOf b).sum, .int .i64 (ckOf b).number, .int .i64 (ckOf b).count, .int .i64 (ckOf b).at', Sl.v sp] 0 (outR tag10 [8] σ15) := by
    rintro ok rfl
    refine rL.stAll hsL rfl (by simp [storable, Sl.v]) fun σ16 st16 r16 => ?_
    intro hdis
    have stB := st16.backR hs15 hdis
    have r17 := r16.backR hdis
    unfold j10_snap_readChunk
    obtain ⟨p, hp, hg⟩ := r17.ptr stB.sep (by simp)
    cases hp
    refine ⟨_, _, _, _, _, _, cellsAt_of 0 fun j v hj => by have := hg j v hj; rwa [Nat.mul_one, ← Nat.zero_add j] at this, ?_⟩
    refine hQ sp _ _ (((st1 []).s (by simp)).trans (st1F.trans (stB.s (by decide)))) (rp15.keep stB (by decide))
  refine rerr_ok dL hsL ?_
  have eok : ckOk b = (decide ((x6 b).2.err = 0) && (decide ((x6 b).2.rest.length = 0) && ckFits (ckOf b))) := rfl
  by_cases c1 : (x6 b).2.err = 0
  rotate_left
  · rw [if_neg c1]; exact fin false (by rw [eok]; simp [c1])
  rw [if_pos c1]
  refine left_ok dL hsL ?_
  by_cases c2 : (x6 b).2.rest.length = 0
  rotate_left
  · rw [if_neg (by have : ¬ (((x6 b).2.rest.length : Nat) : Int) = 0 := by omega
                   exact this)]; exact fin false (by rw [eok]; simp [c1]; intro h; exact absurd (by rw [h]; rfl) c2)
  rw [if_pos (by have : (((x6 b).2.rest.length : Nat) : Int) = 0 := by omega
                 exact this)]
  have eok2 : ckOk b = ckFits (ckOf b) := by rw [eok, decide_eq_true c1, decide_eq_true c2]; rfl
  unfold ckFits at eok2
  refine ⟨_, cY _ 3 _ rfl, ?_⟩
  by_cases c3 : 1 ≤ (ckOf b).count
  rotate_left
  · rw [if_neg (by omega)]; exact fin false (by rw [eok2, decide_eq_false c3]; rfl)
  rw [if_pos (by omega)]
  refine ⟨_, cY _ 3 _ rfl, ?_⟩
  by_cases c4 : (ckOf b).count ≤ 1048576
  rotate_left
  · rw [if_neg (by omega)]; exact fin false (by rw [eok2, decide_eq_false c4]; simp)
  rw [if_pos (by omega)]
  refine ⟨_, cY _ 4 _ rfl, _, cY _ 3 _ rfl, ?_⟩
  by_cases c5 : (ckOf b).at' < (ckOf b).count
  rotate_left
  · rw [if_neg (by omega)]; exact fin false (by rw [eok2, decide_eq_false c5]; simp)
  rw [if_pos (by omega)]
  refine ⟨_, cY _ 0 _ rfl, ?_⟩
  by_cases c6 : (ckOf b).length ≤ 1048576
  rotate_left
  · rw [if_neg (by omega)]; exact fin false (by rw [eok2, decide_eq_false c6]; simp)
  rw [if_pos (by omega)]
  refine ⟨_, cY _ 5 _ rfl, _, cY _ 0 _ rfl, ?_⟩
  refine fin _ ?_
  rw [eok2, decide_eq_true c3, decide_eq_true c4, decide_eq_true c5, decide_eq_true c6, hln]
  simp
end Go.Proofs.YtfobjidchipdaaaGreatDoor.Sn

/- Maps whose keys are whole numbers: what look-ups, stores and deletes do to the list of pairs that a map holds. Generic over any program. -/
namespace Go.Proofs.YtfobjidchipdaaaGreatDoor.SL
open Go
set_option linter.unusedSimpArgs false
set_option linter.unusedVariables false
variable {P : Program} {B : World} {ro σ σ' : AH} {tag tag' : Nat → Nat}

abbrev KVn := List (Int × Value)
def iput : KVn → Int → Value → KVn
  | [], k, v => [(k, v)]
  | (k', v') :: r, k, v => if k = k' then (k, v) :: r else (k', v') :: iput r k v
def idel : KVn → Int → KVn
  | [], _ => []
  | (k', v') :: r, k => if k = k' then r else (k', v') :: idel r k
def pairN (p : Int × Value) : Value × Value := (.int .i64 p.1, p.2)
structure MapN (tag : Nat → Nat) (σ : AH) (r b : Nat) (m : KVn) : Prop where
  tg : tag b = r
  obj : ∃ es clock, σ b = some (.map es clock) ∧ es.toList.map entV = m.map pairN ∧ Born es clock

theorem MapN.keep {R : List Nat} {r b : Nat} {m : KVn} (h : MapN tag σ r b m) (k : Step R ro tag σ tag' σ') (hr : r ∉ R) : MapN tag' σ' r b m := by
  obtain ⟨es, c, hb, hx⟩ := h.obj
  obtain ⟨t, e⟩ := k.keep b _ hb (by rw [h.tg]; exact hr)
  exact ⟨t.trans h.tg, es, c, e, hx⟩

theorem findNow_int (k : Int) : ∀ (l : List MapEntry) (m : KVn) (i : Nat), l.map entV = m.map pairN →
    (m.lookup k = none ∧ idel m k = m ∧ (∀ v, iput m k v = m ++ [(k, v)]) ∧ Instr.findNow (.int .i64) (.int .i64 k) l i = some none) ∨
    ∃ j v, j < l.length ∧ m.lookup k = some v ∧ Instr.findNow (.int .i64) (.int .i64 k) l i = some (some (i + j, v)) ∧ m[j]? = some (k, v) ∧ (∀ v', iput m k v' = m.set j (k, v')) ∧ idel m k = m.eraseIdx j := by
  intro l
  induction l with
  | nil =>
    intro m i h
    have : m = [] := by simpa using h.symm
    subst this
    exact .inl ⟨rfl, rfl, fun _ => rfl, rfl⟩
  | cons e l ih =>
    intro m i h
    cases m with
    | nil => simp at h
    | cons p m =>
      simp only [List.map_cons, List.cons.injEq] at h
      obtain ⟨h1, h2⟩ := h
      have hk : e.key = .int .i64 p.1 := congrArg Prod.fst h1
      have hv : e.val = p.2 := congrArg Prod.snd h1
      obtain ⟨pk, pv⟩ := p
      simp only at hk hv
      unfold Instr.findNow
      rw [hk]
      by_cases c : k = pk
      · subst c
        right
        refine ⟨0, pv, by simp, by simp, ?_, rfl, fun v' => by simp [iput], by simp [idel]⟩
        simp [Instr.sameNow, hv]
      · have hne : Instr.sameNow (.int .i64) (.int .i64 k) (.int .i64 pk) = some false := by
          simp [Instr.sameNow, c]
        rw [hne]
        simp only
        have hlk : List.lookup k ((pk, pv) :: m) = m.lookup k := by
          rw [List.lookup_cons]
          have : (k == pk) = false := by simpa using c
          rw [this]
        rw [hlk]
        rcases ih m (i + 1) h2 with ⟨a, b, d, f⟩ | ⟨j, v, hj, a, f, g, q, w⟩
        · exact .inl ⟨a, by simp [idel, c, b], fun v => by simp [iput, c, d], f⟩
        · exact .inr ⟨j + 1, v, by simp; omega, a, by rw [f]; congr 3; omega, by simpa using g, fun v' => by simp [iput, c, q], by simp [idel, c, w]⟩

theorem awp_checkKeyN {β : Type} {em : Bool} {kt : TypeId} {s : Int} {f : Unit → Sem β} {K : β → AH → Prop} (hk : P.underlying kt = some (.int .i64)) (h : awp P ro (f ()) K σ) : awp P ro (Sem.bind (Instr.checkKey em 10000 kt (.int .i64 s)) f) K σ := by
  rw [show (10000 : Nat) = 9999 + 1 from rfl]
  unfold Instr.checkKey
  simp only [bind_def]
  rw [bind_assoc', awp_underlying hk]
  exact h
theorem awp_findKeyN {β : Type} {kt : TypeId} {s : Int} {l : List MapEntry} {r : Option (Nat × Value)} {f : Option (Nat × Value) → Sem β} {K : β → AH → Prop} (hk : P.underlying kt = some (.int .i64)) (hr : Instr.findNow (.int .i64) (.int .i64 s) l 0 = some r) (h : awp P ro (f r) K σ) :
    awp P ro (Sem.bind (Instr.findKey kt (.int .i64 s) l) f) K σ := by
  unfold Instr.findKey
  simp only [bind_def]
  rw [bind_assoc', awp_underlying hk]
  rw [hr]
  exact h

theorem awp_lookup_int {t kt et : TypeId} {zv : Value} {n bt r b : Nat} {m : KVn} {k : Int} {K : Value → AH → Prop} (hm : MapN tag σ r b m) (hs : Sep ro σ) (ht : P.underlying t = some (.map kt et)) (hk : P.underlying kt = some (.int .i64)) (hz : TyIs P et zv n bt)
    (hK : K ((m.lookup k).getD zv) σ) : awp P ro (Instr.lookup t (.map (some b)) (.int .i64 k) false) K σ := by
  obtain ⟨es, clock, hb, he, hbn⟩ := hm.obj
  unfold Instr.lookup
  simp only [bind_def]
  rw [awp_underlying ht]
  simp only [bind_assoc']
  refine ⟨.map es clock, by unfold rd; rw [hs b _ hb]; exact hb, rfl, ?_⟩
  refine awp_checkKeyN hk ?_
  rcases findNow_int k es.toList m 0 he with ⟨a, _, _, f⟩ | ⟨j, v, hj, a, f, _⟩
  · refine awp_findKeyN hk f ?_
    simp only [bind_assoc']
    rw [awp_zero hz]
    rw [a] at hK
    exact hK
  · refine awp_findKeyN hk f ?_
    rw [a] at hK
    exact hK

theorem awp_update_int {t kt et : TypeId} {r b : Nat} {m : KVn} {k : Int} {v : Value} {K : Unit → AH → Prop} (hm : MapN tag σ r b m) (hs : Sep ro σ) (ht : P.underlying t = some (.map kt et)) (hk : P.underlying kt = some (.int .i64))
    (hK : ∀ σ', Step [r] ro tag σ tag σ' → MapN tag σ' r b (iput m k v) → K () σ') : awp P ro (Instr.mapUpdate t (.map (some b)) (.int .i64 k) v) K σ := by
  obtain ⟨es, clock, hb, he, hbn⟩ := hm.obj
  unfold Instr.mapUpdate
  simp only [bind_def]
  rw [awp_underlying ht]
  refine ⟨.map es clock, by unfold rd; rw [hs b _ hb]; exact hb, rfl, ?_⟩
  refine awp_checkKeyN hk ?_
  rcases findNow_int k es.toList m 0 he with ⟨a, _, d, f⟩ | ⟨j, u, hj, a, f, g, q, _⟩
  · refine awp_findKeyN hk f ?_
    refine ⟨.map es clock, hb, rfl, ?_⟩
    refine hK _ (step_obj hs hm.tg hb) ⟨hm.tg, _, _, upd_same _ _ _, ?_, ?_, ?_⟩
    · rw [d v, Array.toList_push, List.map_append, List.map_append, he]; rfl
    · intro e he'
      rw [Array.toList_push] at he'
      rcases List.mem_append.1 he' with h | h
      · have := hbn.lt e h; omega
      · rw [List.mem_singleton] at h; rw [h]; exact Nat.lt_succ_self _
    · rw [Array.toList_push, List.map_append, List.nodup_append]
      refine ⟨hbn.nd, by simp, ?_⟩
      intro x hx y hy
      obtain ⟨e, he', rfl⟩ := List.mem_map.1 hx
      have := hbn.lt e he'
      simp at hy; omega
  · refine awp_findKeyN hk f ?_
    have hje : j < es.size := by simpa using hj
    have hkey : es[j].key = .int .i64 k := by
      have h1 : (es.toList.map entV)[j]? = (m.map pairN)[j]? := by rw [he]
      rw [List.getElem?_map, List.getElem?_map, g, List.getElem?_eq_getElem hj] at h1
      have := Option.some.inj h1
      exact congrArg Prod.fst this
    have hst : (((es[0 + j]?).map (·.key)).getD (.int .i64 k)) = .int .i64 k := by
      rw [Nat.zero_add, Array.getElem?_eq_getElem hje]
      exact hkey
    simp only
    rw [hst]
    have hkt : Instr.keyThatStays (.int .i64 k) (.int .i64 k) = Sem.pure (.int .i64 k) := by
      unfold Instr.keyThatStays
      rw [if_pos (by simp [Instr.sameBits])]; rfl
    rw [hkt]
    refine ⟨.map es clock, hb, rfl, ?_⟩
    have hml : (es.modify (0 + j) fun e => { e with key := .int .i64 k, val := v }).toList = es.toList.modify j fun e => { e with key := .int .i64 k, val := v } := by
      rw [Nat.zero_add]; exact Array.toList_modify ..
    refine hK _ (step_obj hs hm.tg hb) ⟨hm.tg, _, _, upd_same _ _ _, ?_, ?_, ?_⟩
    · rw [hml, q v]
      apply List.ext_getElem?
      intro i
      rw [List.getElem?_map, List.getElem?_map, List.getElem?_modify, List.getElem?_set]
      have hi : (es.toList.map entV)[i]? = (m.map pairN)[i]? := by rw [he]
      rw [List.getElem?_map, List.getElem?_map] at hi
      by_cases c : j = i
      · subst c
        have hjm : j < m.length := by
          rcases Nat.lt_or_ge j m.length with h | h
          · exact h
          · rw [List.getElem?_eq_none h] at g; cases g
        rw [if_pos rfl, if_pos hjm, List.getElem?_eq_getElem hj]
        simp [entV, pairN]
      · rw [if_neg c]
        simp only [c, if_false]
        cases h : es.toList[i]? with
        | none => rw [h] at hi; simpa using hi
        | some e => rw [h] at hi; simpa using hi
    · intro e he'
      rw [hml] at he'
      obtain ⟨i, hi, rfl⟩ := List.getElem_of_mem he'
      rw [List.getElem_modify]
      rw [List.length_modify] at hi
      split
      · have := hbn.lt _ (List.getElem_mem hi)
        exact this
      · have := hbn.lt _ (List.getElem_mem hi)
        exact this
    · rw [hml]
      have : (es.toList.modify j fun e => { e with key := .int .i64 k, val := v }).map (·.born) = es.toList.map (·.born) := by
        apply List.ext_getElem?
        intro i
        rw [List.getElem?_map, List.getElem?_map, List.getElem?_modify]
        by_cases c : j = i
        · subst c; rw [List.getElem?_eq_getElem hj]; simp
        · simp [c]
      rw [this]; exact hbn.nd
theorem nw_mapN (r : Nat) {K : Nat → AH → Prop} (hs : Sep ro σ) (hK : ∀ b tag' σ', (∀ R, Step R ro tag σ tag' σ') → MapN tag' σ' r b [] → K b σ') : nw ro σ (.map #[] 0) K := by
  intro b hro hb
  exact hK b (setTag tag b r) _ (fun R => Step.fresh hs hro hb) ⟨by simp [setTag], _, _, upd_same _ _ _, rfl, by simp, by simp⟩
theorem awp_lookup_intok {t kt et : TypeId} {zv : Value} {n bt r b : Nat} {m : KVn} {k : Int} {K : Value → AH → Prop} (hm : MapN tag σ r b m) (hs : Sep ro σ) (ht : P.underlying t = some (.map kt et)) (hk : P.underlying kt = some (.int .i64)) (hz : TyIs P et zv n bt)
    (hK : K (.tuple #[(m.lookup k).getD zv, .bool (m.lookup k).isSome]) σ) : awp P ro (Instr.lookup t (.map (some b)) (.int .i64 k) true) K σ := by
  obtain ⟨es, clock, hb, he, hbn⟩ := hm.obj
  unfold Instr.lookup
  simp only [bind_def]
  rw [awp_underlying ht]
  simp only [bind_assoc']
  refine ⟨.map es clock, by unfold rd; rw [hs b _ hb]; exact hb, rfl, ?_⟩
  refine awp_checkKeyN hk ?_
  rcases findNow_int k es.toList m 0 he with ⟨a, _, _, f⟩ | ⟨j, v, hj, a, f, _⟩
  · refine awp_findKeyN hk f ?_
    simp only [bind_assoc']
    rw [awp_zero hz]
    rw [a] at hK
    exact hK
  · refine awp_findKeyN hk f ?_
    rw [a] at hK
    exact hK
theorem awp_len_int {t kt et ty : TypeId} {r b : Nat} {m : KVn} {K : Value → AH → Prop} (hm : MapN tag σ r b m) (hs : Sep ro σ) (ht : P.underlying t = some (.map kt et)) (hK : K (.int .i64 (m.length : Nat)) σ) : awp P ro (Builtin.len_ #[t] ty #[.map (some b)]) K σ := by
  obtain ⟨es, clock, hb, he, hbn⟩ := hm.obj
  unfold Builtin.len_
  simp only [bind_def]
  show awp P ro (Sem.bind (underlying t) _) K σ
  rw [awp_underlying ht]
  refine ⟨.map es clock, by unfold rd; rw [hs b _ hb]; exact hb, rfl, ?_⟩
  have hsz : es.size = m.length := by have := congrArg List.length he; simpa using this
  show K (.int .i64 (es.size : Nat)) σ
  rw [hsz]; exact hK
theorem MapN.outR {L : List Nat} {r b : Nat} {m : KVn} (h : MapN tag σ r b m) (hr : r ∉ L) : MapN tag (SL.outR tag L σ) r b m := by
  obtain ⟨es, clock, hb, x⟩ := h.obj
  exact ⟨h.tg, es, clock, by unfold SL.outR; rw [if_neg (by rw [h.tg]; exact hr)]; exact hb, x⟩
theorem MapN.keepS {C : List Nat} {r b : Nat} {m : KVn} (h : MapN tag σ r b m) (k : StepS C ro tag σ tag' σ') (hr : r % 64 ∉ C) : MapN tag' σ' r b m := by
  obtain ⟨R, h1, h2⟩ := k
  exact h.keep h2 fun m => hr (h1 _ m)
end Go.Proofs.YtfobjidchipdaaaGreatDoor.SL

/- Chunks put together: what is there, and how it lies in memory. -/
namespace Go.Proofs.YtfobjidchipdaaaGreatDoor.SL
open Go
theorem join_lent (tag : Nat → Nat) (L : List Nat) (σ : AH) : join (inR tag L σ) (outR tag L σ) = σ ∧ Disj (inR tag L σ) (outR tag L σ) := by
  refine ⟨?_, fun c o hc => ?_⟩
  · funext c; unfold join inR outR
    by_cases e : tag c ∈ L
    · simp only [e, if_true]; cases σ c <;> rfl
    · simp [e]
  · unfold inR at hc; unfold outR
    split at hc
    · rename_i e; rw [if_pos e]
    · cases hc
end Go.Proofs.YtfobjidchipdaaaGreatDoor.SL
namespace Go.Proofs.YtfobjidchipdaaaGreatDoor.Sn
open Go Go.Proofs.YtfobjidchipdaaaGreatDoor.SL Go.Proofs.YtfobjidchipdaaaGreatDoor.G Go.Proofs.YtfobjidchipdaaaGreatDoor.Pa Go.Proofs.YtfobjidchipdaaaGreatDoor.Wi
set_option linter.unusedSimpArgs false
set_option linter.unusedVariables false
set_option maxRecDepth 100000
variable {B : World} {ro σ σ' : AH} {tag tag' : Nat → Nat}
section
variable {β : Type}
def qput : List (Int × β) → Int → β → List (Int × β)
  | [], k, v => [(k, v)]
  | (k', v') :: r, k, v => if k = k' then (k, v) :: r else (k', v') :: qput r k v
theorem qput_map {γ : Type} (f : β → γ) (l : List (Int × β)) (k : Int) (v : β) : (qput l k v).map (fun p => (p.1, f p.2)) = qput (l.map fun p => (p.1, f p.2)) k (f v) := by
  induction l with
  | nil => rfl
  | cons p l ih =>
    obtain ⟨k', v'⟩ := p
    rw [List.map_cons]
    unfold qput
    split
    · rfl
    · rw [List.map_cons, ih]
theorem qlook_map {γ : Type} (f : β → γ) (l : List (Int × β)) (k : Int) : (l.map fun p => (p.1, f p.2)).lookup k = (l.lookup k).map f := by
  induction l with
  | nil => rfl
  | cons p l ih =>
    obtain ⟨k', v'⟩ := p
    rw [List.map_cons, List.lookup_cons, List.lookup_cons]
    by_cases e : k = k'
    · subst e; simp
    · rw [show (k == k') = false by simpa using e]; exact ih
theorem qput_look {l : List (Int × β)} {k : Int} {v : β} (j : Int) : (qput l k v).lookup j = if j = k then some v else l.lookup j := by
  induction l with
  | nil =>
    show List.lookup j [(k, v)] = _
    rw [List.lookup_cons]
    by_cases e : j = k
    · simp [e]
    · rw [show (j == k) = false by simpa using e, if_neg e]
  | cons p l ih =>
    obtain ⟨k', v'⟩ := p
    unfold qput
    by_cases c : k = k'
    · rw [if_pos c]
      subst c
      rw [List.lookup_cons, List.lookup_cons]
      by_cases e : j = k
      · simp [e]
      · rw [show (j == k) = false by simpa using e, if_neg e]
    · rw [if_neg c, List.lookup_cons, List.lookup_cons, ih]
      by_cases e : j = k'
      · subst e
        simp
        intro h; exact absurd h.symm c
      · rw [show (j == k') = false by simpa using e]
theorem qmem_put {l : List (Int × β)} {k : Int} {v : β} {p : Int × β} (h : p ∈ qput l k v) : p = (k, v) ∨ p ∈ l := by
  induction l with
  | nil => exact .inl (List.mem_singleton.1 h)
  | cons q l ih =>
    obtain ⟨k', v'⟩ := q
    unfold qput at h
    split at h
    · rcases List.mem_cons.1 h with h | h
      · exact .inl h
      · exact .inr (List.mem_cons_of_mem _ h)
    · rcases List.mem_cons.1 h with h | h
      · exact .inr (by rw [h]; exact List.mem_cons_self)
      · rcases ih h with h | h
        · exact .inl h
        · exact .inr (List.mem_cons_of_mem _ h)
theorem qlook_mem {l : List (Int × β)} {k : Int} {v : β} (h : l.lookup k = some v) : (k, v) ∈ l := by
  induction l with
  | nil => cases h
  | cons p l ih =>
    obtain ⟨k', v'⟩ := p
    rw [List.lookup_cons] at h
    by_cases e : k = k'
    · subst e; simp at h; subst h; simp
    · rw [show (k == k') = false by simpa using e] at h
      exact List.mem_cons_of_mem _ (ih h)
theorem qput_keys (l : List (Int × β)) (k : Int) (v : β) : ((qput l k v).map (·.1) = l.map (·.1) ∧ k ∈ l.map (·.1)) ∨ ((qput l k v).map (·.1) = l.map (·.1) ++ [k] ∧ k ∉ l.map (·.1)) := by
  induction l with
  | nil => exact .inr ⟨rfl, by simp⟩
  | cons p l ih =>
    obtain ⟨k', v'⟩ := p
    unfold qput
    by_cases c : k = k'
    · rw [if_pos c]; subst c; exact .inl ⟨rfl, by simp⟩
    · rw [if_neg c]
      rcases ih with ⟨h1, h2⟩ | ⟨h1, h2⟩
      · exact .inl ⟨by simp [h1], by simp at h2 ⊢; exact .inr h2⟩
      · exact .inr ⟨by simp [h1], by simp at h2 ⊢; exact ⟨c, h2⟩⟩
end
theorem iput_q (l : KVn) (k : Int) (v : Value) : iput l k v = qput l k v := by
  induction l with
  | nil => rfl
  | cons p l ih => obtain ⟨k', v'⟩ := p; unfold iput qput; rw [ih]
/-- what was put together -/
structure As where
  length : Nat
  sum : Nat
  number : Nat
  count : Nat
  parts : List (Int × Str)
def As.new : As := ⟨0, 0, 0, 0, []⟩
def As.begin (a : As) (c : Ck) : As := if a.count = 0 then { a with length := c.length, sum := c.sum, number := c.number, count := c.count } else a
def As.fits (a : As) (c : Ck) : Bool := decide (c.length = a.length ∧ c.sum = a.sum ∧ c.number = a.number) && (decide (c.count = a.count) && (match a.parts.lookup (c.at' : Int) with | some p => decide (p = c.part) | none => true))
def asAdd1 (a : As) (b : Str) : As × Int :=
  if ckOk b then (if (a.begin (ckOf b)).fits (ckOf b) then ({ (a.begin (ckOf b)) with parts := qput (a.begin (ckOf b)).parts ((ckOf b).at' : Int) (ckOf b).part }, 0) else (a.begin (ckOf b), 51))
  else (a, 50)
def asAdd : As → List Str → As × Int
  | a, [] => (a, 0)
  | a, b :: l => if (asAdd1 a b).2 = 0 then asAdd (asAdd1 a b).1 l else asAdd1 a b
def asData (a : As) : Str := (List.range a.count).flatMap fun (i : Nat) => (a.parts.lookup (i : Int)).getD []
def asDone (a : As) : Nat × Str × Bool :=
  if a.count = 0 ∨ a.parts.length < a.count then (0, [], false)
  else if (asData a).length = a.length ∧ crc (asData a) = a.sum then (a.number, asData a, true) else (0, [], false)
def asMissing (a : As) : List Int := ((List.range a.count).filter fun (i : Nat) => (a.parts.lookup (i : Int)).isNone).map fun (i : Nat) => (i : Int)
/-- nothing is too great -/
structure AsOk (a : As) : Prop where
  count : a.count ≤ 1048576
  part : ∀ p ∈ a.parts, p.2.length ≤ 1048576
theorem ckOk_fits {b : Str} (h : ckOk b = true) : 1 ≤ (ckOf b).count ∧ (ckOf b).count ≤ 1048576 ∧ (ckOf b).at' < (ckOf b).count ∧ (ckOf b).length ≤ 1048576 ∧ (ckOf b).part.length ≤ (ckOf b).length := by
  unfold ckOk ckFits at h
  simp only [Bool.and_eq_true, decide_eq_true_eq] at h
  omega
theorem AsOk.begin {a : As} {b : Str} (h : AsOk a) (hb : ckOk b = true) : AsOk (a.begin (ckOf b)) := by
  unfold As.begin
  split
  · exact ⟨(ckOk_fits hb).2.1, h.part⟩
  · exact h
theorem AsOk.add {a : As} {b : Str} (h : AsOk a) : AsOk (asAdd1 a b).1 := by
  unfold asAdd1
  split
  · rename_i hb
    have h2 := h.begin hb
    split
    · refine ⟨h2.count, fun p hp => ?_⟩
      rcases qmem_put hp with rfl | hp
      · have := ckOk_fits hb; simp only; omega
      · exact h2.part p hp
    · exact h2
  · exact h
abbrev Qs := List (Int × Sl × Str)
structure AsAt (tag : Nat → Nat) (σ : AH) (r T M : Nat) (a : As) : Prop where
  cell : Row tag σ r 114 ⟨some ⟨T, 0, none⟩, 5, 5⟩ [Zt.vI a.length, Zt.vI a.sum, Zt.vI a.number, Zt.vI a.count, .map (some M)]
  map : ∃ qs : Qs, a.parts = qs.map (fun q => (q.1, q.2.2)) ∧ MapN tag σ (r + 64) M (qs.map fun q => (q.1, Sl.v q.2.1)) ∧ ∀ q ∈ qs, Row tag σ 6 5 q.2.1 (q.2.2.map Zt.vU)
theorem AsAt.keep {R : List Nat} {r T M : Nat} {a : As} (h : AsAt tag σ r T M a) (k : Step R ro tag σ tag' σ') (h1 : r ∉ R) (h2 : r + 64 ∉ R) (h6 : 6 ∉ R) : AsAt tag' σ' r T M a := by
  obtain ⟨c, qs, e, m, d⟩ := h
  exact ⟨c.keep k h1, qs, e, m.keep k h2, fun q hq => (d q hq).keep k h6⟩
theorem AsAt.keepS {C : List Nat} {r T M : Nat} {a : As} (h : AsAt tag σ r T M a) (k : StepS C ro tag σ tag' σ') (hr : r % 64 ∉ C) (h6 : 6 ∉ C) : AsAt tag' σ' r T M a := by
  obtain ⟨R, h1, h2⟩ := k
  refine h.keep h2 (fun m => hr (h1 _ m)) (fun m => hr ?_) (fun m => h6 (h1 _ m))
  have := h1 _ m
  rwa [Nat.add_mod_right] at this
theorem u112 : Tryz.prog.underlying 112 = some (.map 3 22) := by kernel_rfl
theorem u3 : Tryz.prog.underlying 3 = some (.int .i64) := by kernel_rfl
theorem newAsm_ok {r : Nat} {Q : Option Addr → AH → Prop} (hQ : ∀ T M tag' σ', (∀ R, Step R ro tag σ tag' σ') → AsAt tag' σ' r T M As.new → Q (some ⟨T, 0, none⟩) σ') : c_snap_NewAsm B ro σ Q := by
  refine snap_NewAsm_ok fun hs => ?_
  unfold f_snap_NewAsm
  refine nw_mapN (tag := tag) (r + 64) hs fun M tag1 σ1 st1 m1 => ?_
  refine nw_cells (tag := tag1) r (st1 []).sep fun T tag2 σ2 st2 r2 => ?_
  exact hQ T M tag2 σ2 (fun R => (st1 R).trans (st2 R)) ⟨r2, [], rfl, m1.keep (st2 []) (by simp), fun q hq => by cases hq⟩
end Go.Proofs.YtfobjidchipdaaaGreatDoor.Sn

/- Several values stored at the beginning of a row. Generic over any program. -/
namespace Go.Proofs.YtfobjidchipdaaaGreatDoor.SL
open Go
set_option linter.unusedVariables false
variable {ro σ : AH} {tag : Nat → Nat}
theorem stN_cons {b i : Nat} {v : Value} {vs : List Value} {K : AH → Prop} (h : stN ((⟨b, 0, none⟩ : Addr).add (i * 1)) (fun σ => stN ⟨b, 0, none⟩ K vs (i + 1) σ) [v] 0 σ) : stN ⟨b, 0, none⟩ K (v :: vs) i σ := by
  have e : ((⟨b, 0, none⟩ : Addr).add (i * 1)).add 0 = (⟨b, 0, none⟩ : Addr).add i := by rw [add_add, add_add, add_add, Nat.mul_one, Nat.add_zero]
  unfold stN at h ⊢
  rw [e] at h
  exact h
theorem Row.stPre {r : Nat} {e : TypeId} {b n c : Nat} {K : AH → Prop} : ∀ (vs : List Value) (i : Nat) (l : List Value) (σ : AH), Row tag σ r e ⟨some ⟨b, 0, none⟩, n, c⟩ l → Sep ro σ → i + vs.length ≤ l.length → (∀ v ∈ vs, storable v = true) →
    (∀ σ', Step [r] ro tag σ tag σ' → Row tag σ' r e ⟨some ⟨b, 0, none⟩, n, c⟩ (l.take i ++ vs ++ l.drop (i + vs.length)) → K σ') → stN ⟨b, 0, none⟩ K vs i σ := by
  intro vs
  induction vs with
  | nil =>
    intro i l σ h hs _ _ hK
    refine hK σ (Step.refl hs) ?_
    simpa using h
  | cons v vs ih =>
    intro i l σ h hs hl hv hK
    simp only [List.length_cons] at hl
    refine stN_cons ?_
    refine h.st hs rfl (by omega) (hv v (by simp)) fun σ1 st1 h1 => ?_
    refine ih (i + 1) (l.set i v) σ1 h1 st1.sep (by simp; omega) (fun w hw => hv w (by simp [hw])) fun σ2 st2 h2 => ?_
    refine hK σ2 (st1.trans st2) ?_
    have e1 : (l.set i v).take (i + 1) = l.take i ++ [v] := by
      rw [List.take_add_one, List.take_set_of_le (Nat.le_refl _), List.getElem?_set_self (by omega)]; rfl
    have e2 : (l.set i v).drop (i + 1 + vs.length) = l.drop (i + (v :: vs).length) := by
      rw [List.drop_set_of_lt (by omega)]; congr 1; simp; omega
    rw [e1, e2] at h2
    simpa using h2
end Go.Proofs.YtfobjidchipdaaaGreatDoor.SL

/- Chunks put together, the walk: Add. -/
namespace Go.Proofs.YtfobjidchipdaaaGreatDoor.Sn
open Go Go.Proofs.YtfobjidchipdaaaGreatDoor.SL Go.Proofs.YtfobjidchipdaaaGreatDoor.G Go.Proofs.YtfobjidchipdaaaGreatDoor.Pa Go.Proofs.YtfobjidchipdaaaGreatDoor.Wi
set_option linter.unusedSimpArgs false
set_option linter.unusedVariables false
set_option maxRecDepth 100000
variable {B : World} {ro σ σ' : AH} {tag tag' : Nat → Nat}
theorem g90 : Tryz.prog.eqGuardType Tryz.prog.depth 90 = false := by kernel_rfl
theorem st90 : Tryz.prog.stoodInHeld 90 = false := by kernel_rfl
theorem u90 : ∃ n1 n2 : Field, Tryz.prog.underlying 90 = some (.struct #[n1, n2]) ∧ n1.type = 87 ∧ n1.offset = 0 ∧ n2.type = 3 ∧ n2.offset = 2 ∧ n1.name ≠ "_" ∧ n2.name ≠ "_" := ⟨_, _, Tryz.underlying90, rfl, rfl, rfl, rfl, by decide, by decide⟩
theorem part87 {a b c : Int} {τ : AH} : aread Tryz.prog ro (part 87 #[.int .i64 a, .int .i64 b, .int .i64 c] 0) τ = some (.agg #[.int .i64 a, .int .i64 b]) := by
  unfold part
  show aread Tryz.prog ro (Sem.bind (isAgg 87) _) τ = _
  rw [aread_isAgg Tryz.underlying87]
  show aread Tryz.prog ro (Sem.bind (Sem.bind (sizeOf 87) _) _) τ = _
  rw [bind_assoc', aread_size ty87]
  rfl
theorem eq90 {k : Nat} {a b c x y z : Int} {τ : AH} : aread Tryz.prog ro (Op.equalIn (k + 3) 90 (.agg #[.int .i64 a, .int .i64 b, .int .i64 c]) (.agg #[.int .i64 x, .int .i64 y, .int .i64 z])) τ = some (decide (a = x ∧ b = y ∧ c = z)) := by
  obtain ⟨n1, n2, hu, h1, h2, h3, h4, h5, h6⟩ := u90
  unfold Op.equalIn
  show aread Tryz.prog ro (Sem.bind (underlying 90) _) _ = _
  rw [underlying_bind _ _ hu]
  show aread Tryz.prog ro (if Tryz.prog.stoodInHeld 90 = true then _ else _) τ = _
  rw [st90, if_neg (by simp)]
  show aread Tryz.prog ro (Sem.bind (forIn #[n1, n2] _ _) _) τ = _
  have p : ∀ {β : Type} (cs : Array Value) (i : Nat) (n : Int) (f : Value → Sem β), cs[i]? = some (.int .i64 n) → aread Tryz.prog ro (part 3 cs i >>= f) τ = aread Tryz.prog ro (f (.int .i64 n)) τ := fun cs i n f h => aread_bind _ _ (partI h)
  have p7 : ∀ {β : Type} (a b c : Int) (f : Value → Sem β), aread Tryz.prog ro (part 87 #[.int .i64 a, .int .i64 b, .int .i64 c] 0 >>= f) τ = aread Tryz.prog ro (f (.agg #[.int .i64 a, .int .i64 b])) τ := fun a b c f => aread_bind _ _ part87
  have q : ∀ {β : Type} (x y : Int) (f : Bool → Sem β), aread Tryz.prog ro (Op.equalIn (k + 2) 3 (.int .i64 x) (.int .i64 y) >>= f) τ = aread Tryz.prog ro (f (decide (x = y))) τ := fun x y f => aread_bind _ _ eqint
  have q7 : ∀ {β : Type} (a b c d : Int) (f : Bool → Sem β), aread Tryz.prog ro (Op.equalIn (k + 2) 87 (.agg #[.int .i64 a, .int .i64 b]) (.agg #[.int .i64 c, .int .i64 d]) >>= f) τ = aread Tryz.prog ro (f (decide (a = c ∧ b = d))) τ := fun a b c d f => aread_bind _ _ eq87
  rw [← Array.forIn_toList]
  by_cases e1 : a = x ∧ b = y
  · by_cases e2 : c = z
    · rw [show decide (a = x ∧ b = y ∧ c = z) = true by simp [e1, e2]]
      refine (aread_bind _ _ (a := ((none, ()) : Option Bool × Unit)) ?_).trans rfl
      rw [List.forIn_cons]
      refine (aread_bind _ _ (a := .yield ((none, ()) : Option Bool × Unit)) ?_).trans ?_
      · rw [if_pos h5, h1, h2, p7, p7, q7]; rw [decide_eq_true e1]; rfl
      · show aread Tryz.prog ro (forIn [n2] _ _) τ = _
        rw [List.forIn_cons]
        refine (aread_bind _ _ (a := .yield ((none, ()) : Option Bool × Unit)) ?_).trans ?_
        · rw [if_pos h6, h3, h4, p _ _ c _ rfl, p _ _ z _ rfl, q]; rw [decide_eq_true e2]; rfl
        · rfl
    · rw [show decide (a = x ∧ b = y ∧ c = z) = false by simp [e2]]
      refine (aread_bind _ _ (a := ((some false, ()) : Option Bool × Unit)) ?_).trans rfl
      rw [List.forIn_cons]
      refine (aread_bind _ _ (a := .yield ((none, ()) : Option Bool × Unit)) ?_).trans ?_
      · rw [if_pos h5, h1, h2, p7, p7, q7]; rw [decide_eq_true e1]; rfl
      · show aread Tryz.prog ro (forIn [n2] _ _) τ = _
        rw [List.forIn_cons]
        refine (aread_bind _ _ (a := .done ((some false, ()) : Option Bool × Unit)) ?_).trans ?_
        · rw [if_pos h6, h3, h4, p _ _ c _ rfl, p _ _ z _ rfl, q]; rw [decide_eq_false e2]; rfl
        · rfl
  · rw [show decide (a = x ∧ b = y ∧ c = z) = false by simp; intro h1 h2; exact absurd ⟨h1, h2⟩ e1]
    refine (aread_bind _ _ (a := ((some false, ()) : Option Bool × Unit)) ?_).trans rfl
    rw [List.forIn_cons]
    refine (aread_bind _ _ (a := .done ((some false, ()) : Option Bool × Unit)) ?_).trans ?_
    · rw [if_pos h5, h1, h2, p7, p7, q7]; rw [decide_eq_false e1]; rfl
    · rfl
theorem ne90 {a b c x y z : Int} {u w : Operand} {K : Value → AH → Prop} (h : K (.bool (!decide (a = x ∧ b = y ∧ c = z))) σ) : awp Tryz.prog ro (do eqGuard .neq 90 u w (.agg #[.int .i64 a, .int .i64 b, .int .i64 c]) (.agg #[.int .i64 x, .int .i64 y, .int .i64 z]); Go.binOp .neq 90 (.agg #[.int .i64 a, .int .i64 b, .int .i64 c]) (.agg #[.int .i64 x, .int .i64 y, .int .i64 z])) K σ := by
  refine awp_at_aread _ ?_ h
  refine (aread_bind _ _ (a := ()) ?_).trans ?_
  · show aread Tryz.prog ro (if (!(Tryz.prog.eqGuardType Tryz.prog.depth 90)) = true then _ else _) σ = _
    rw [g90, if_pos (by simp)]
    rfl
  · show aread Tryz.prog ro (Sem.bind (Op.equal 90 _ _) fun b => Sem.pure (Value.bool !b)) σ = _
    rw [equal_unfold, aread_bind _ _ eq90]; rfl
theorem equal_ok {a b : Sl} {x y : Str} {Q : Bool → AH → Prop} (ha : SL.Read ro σ a (x.map Zt.vU)) (hb : SL.Read ro σ b (y.map Zt.vU)) (hQ : Q (decide (x = y)) σ) : c_bytes_Equal B ro a b σ Q := by
  refine bytes_Equal_ok fun _ => ?_
  unfold f_bytes_Equal
  refine Zt.awp_b2s ha ⟨S x, rfl, Zt.awp_b2s hb ⟨S y, rfl, ?_⟩⟩
  rw [show decide (S x = S y) = decide (x = y) from by simp only [S_inj]]
  exact hQ
theorem AsAt.qs {r T M : Nat} {a : As} (h : AsAt tag σ r T M a) : ∃ qs : Qs, a.parts = qs.map (fun q => (q.1, q.2.2)) ∧ MapN tag σ (r + 64) M (qs.map fun q => (q.1, Sl.v q.2.1)) ∧ ∀ q ∈ qs, Row tag σ 6 5 q.2.1 (q.2.2.map Zt.vU) := h.map
/-- one chunk, behind its being read -/
theorem put_ok {r T M Y j : Nat} {a : As} {c : Ck} {sp s : Sl} {Q : Int → AH → Prop} {Y2 : Int → AH → Prop} (hr : r < 64) (hr0 : r ∉ [0, 6, 7, 8, 9, 31]) (hs : SL.Sep ro σ) (h : AsAt tag σ r T M a) (hp : Row tag σ 6 5 sp (c.part.map Zt.vU)) (hc : Row tag σ 9 116 ⟨some ⟨Y, 0, none⟩, 6, 6⟩ [Zt.vI c.length, Zt.vI c.sum, Zt.vI c.number, Zt.vI c.count, Zt.vI c.at', Sl.v sp]) (hj : j < 4611686018427387904)
    (hno : a.fits c = false → Q 51 σ) (hyes : a.fits c = true → ∀ σ', StepS [r] ro tag σ tag σ' → AsAt tag σ' r T M { a with parts := qput a.parts (c.at' : Int) c.part } → Y2 ((j + 1 : Nat) : Int) σ') : j9_snap_Asm_Add B ro (some ⟨T, 0, none⟩) s Y (j : Int) Q Y2 σ := by
  unfold j9_snap_Asm_Add
  obtain ⟨qs, e1, hm, hd⟩ := h.qs
  obtain ⟨p, hp1, hgT⟩ := h.cell.ptr hs (by simp)
  cases hp1
  obtain ⟨p, hp1, hgY⟩ := hc.ptr hs (by simp)
  cases hp1
  refine ⟨_, rfl, _, hgT 4 _ rfl, _, hgY 4 _ rfl, ?_⟩
  refine awp_lookup_intok hm hs u112 u3 ty22 ?_
  have el : (qs.map fun q => (q.1, Sl.v q.2.1)).lookup (c.at' : Int) = (qs.lookup (c.at' : Int)).map fun x => Sl.v x.1 := qlook_map (fun x : Sl × Str => Sl.v x.1) qs _
  have ep : a.parts.lookup (c.at' : Int) = (qs.lookup (c.at' : Int)).map fun x => x.2 := by rw [e1]; exact qlook_map (fun x : Sl × Str => x.2) qs _
  rw [el]
  obtain ⟨old, had, hov, hold⟩ : ∃ (old : Sl) (had : Bool), ((qs.lookup (c.at' : Int)).map fun x => Sl.v x.1).getD (.slice none 0 0) = Sl.v old ∧ (((qs.lookup (c.at' : Int)).map fun x => Sl.v x.1).isSome = had ∧ ((had = true ∧ ∃ x, qs.lookup (c.at' : Int) = some (old, x)) ∨ (had = false ∧ qs.lookup (c.at' : Int) = none))) := by
    cases e : qs.lookup (c.at' : Int) with
    | none => exact ⟨⟨none, 0, 0⟩, false, rfl, rfl, .inr ⟨rfl, rfl⟩⟩
    | some x => exact ⟨x.1, true, rfl, rfl, .inl ⟨rfl, x.2, rfl⟩⟩
  obtain ⟨hhad, hold⟩ := hold
  rw [hov, hhad]
  refine ⟨old, had, rfl, _, rfl, (c.length : Int), (c.sum : Int), (c.number : Int), cellsAt_of 0 fun i v hv => ?_, (a.length : Int), (a.sum : Int), (a.number : Int), cellsAt_of 0 fun i v hv => ?_, ?_⟩
  · rw [Nat.zero_add]
    have : [Zt.vI c.length, Zt.vI c.sum, Zt.vI c.number, Zt.vI c.count, Zt.vI c.at', Sl.v sp][i]? = some v := by
      match i, hv with
      | 0, hv => exact hv
      | 1, hv => exact hv
      | 2, hv => exact hv
    have := hgY i v this; rwa [Nat.mul_one] at this
  · rw [Nat.zero_add]
    have : [Zt.vI a.length, Zt.vI a.sum, Zt.vI a.number, Zt.vI a.count, .map (some M)][i]? = some v := by
      match i, hv with
      | 0, hv => exact hv
      | 1, hv => exact hv
      | 2, hv => exact hv
    have := hgT i v this; rwa [Nat.mul_one] at this
  refine ne90 ⟨_, rfl, ?_⟩
  have no : a.fits c = false → j15_snap_Asm_Add B ro (some ⟨T, 0, none⟩) s Y (j : Int) Q Y2 true σ := fun hf => by
    unfold j15_snap_Asm_Add; rw [if_pos rfl]; exact hno hf
  have yes : a.fits c = true → j15_snap_Asm_Add B ro (some ⟨T, 0, none⟩) s Y (j : Int) Q Y2 false σ := fun hf => by
    unfold j15_snap_Asm_Add
    rw [if_neg (by simp)]
    refine ⟨_, rfl, _, hgT 4 _ rfl, _, hgY 4 _ rfl, _, hgY 5 _ rfl, ?_⟩
    refine awp_update_int hm hs u112 u3 fun σ1 st1 m1 => ?_
    rw [Pa.inc j hj]
    refine hyes hf σ1 (st1.s (by simp; omega)) ⟨h.cell.keep st1 (by simp), qput qs (c.at' : Int) (sp, c.part), ?_, ?_, fun q hq => ?_⟩
    · show qput a.parts (c.at' : Int) c.part = _
      rw [e1]
      exact (qput_map (fun x : Sl × Str => x.2) qs (c.at' : Int) (sp, c.part)).symm
    · have e2 : (qput qs (c.at' : Int) (sp, c.part)).map (fun q => (q.1, Sl.v q.2.1)) = iput (qs.map fun q => (q.1, Sl.v q.2.1)) (c.at' : Int) (Sl.v sp) := by
        rw [iput_q]; exact qput_map (fun x : Sl × Str => Sl.v x.1) qs (c.at' : Int) (sp, c.part)
      rw [e2]; exact m1
    · have h6 : 6 ∉ [r + 64] := by simp <;> omega
      rcases qmem_put hq with rfl | hq
      · exact hp.keep st1 h6
      · exact (hd q hq).keep st1 h6
  have ef : a.fits c = (decide (c.length = a.length ∧ c.sum = a.sum ∧ c.number = a.number) && (decide (c.count = a.count) && (match a.parts.lookup (c.at' : Int) with | some p => decide (p = c.part) | none => true))) := rfl
  by_cases k1 : c.length = a.length ∧ c.sum = a.sum ∧ c.number = a.number
  rotate_left
  · rw [decide_eq_false (show ¬ ((c.length : Int) = a.length ∧ (c.sum : Int) = a.sum ∧ (c.number : Int) = a.number) by omega), if_pos (show (!false) = true from rfl)]
    exact no (by rw [ef, decide_eq_false k1]; rfl)
  rw [decide_eq_true (show (c.length : Int) = a.length ∧ (c.sum : Int) = a.sum ∧ (c.number : Int) = a.number by omega), if_neg (by simp)]
  rw [decide_eq_true k1, Bool.true_and] at ef
  refine ⟨_, rfl, _, hgY 3 _ rfl, _, hgT 3 _ rfl, ?_⟩
  by_cases k2 : c.count = a.count
  rotate_left
  · rw [if_pos (by omega)]
    exact no (by rw [ef, decide_eq_false k2]; rfl)
  rw [if_neg (by omega)]
  rw [decide_eq_true k2, Bool.true_and] at ef
  rcases hold with ⟨rfl, x, hx⟩ | ⟨rfl, hx⟩
  · rw [if_pos rfl]
    rw [ep, hx] at ef
    refine ⟨sp, hgY 5 _ rfl, ?_⟩
    refine equal_ok (hd _ (qlook_mem hx) |>.read hs) (hp.read hs) ?_
    simp only [Option.map_some] at ef
    by_cases k3 : x = c.part
    · rw [decide_eq_true k3] at ef ⊢; exact yes ef
    · rw [decide_eq_false k3] at ef ⊢; exact no ef
  · rw [if_neg (by simp)]
    rw [ep, hx] at ef
    exact yes ef
theorem asAdd_cons (a : As) (b : Str) (l : List Str) : asAdd a (b :: l) = if (asAdd1 a b).2 = 0 then asAdd (asAdd1 a b).1 l else asAdd1 a b := rfl
theorem add_ok {r T M : Nat} {a : As} {s : Sl} {ss : List Sl} {bs : List Str} {Q : Int → AH → Prop} (hr : r < 64) (hr0 : r ∉ [0, 6, 7, 8, 9, 31]) (h : AsAt tag σ r T M a) (hl : bs.length = ss.length) (hl2 : bs.length < 4611686018427387904) (hx : ∀ tag' σ', StepS [7, 8, 9, 31, r] ro tag σ tag' σ' → SL.Read ro σ' s (ss.map Sl.v))
    (hb : ∀ (i : Nat) (s : Sl) (b : Str), ss[i]? = some s → bs[i]? = some b → SL.Data ro tag σ s (b.map Zt.vU) ∧ b.length ≤ 140737488355328)
    (hQ : ∀ tag' σ', StepS [7, 8, 9, 31, r] ro tag σ tag' σ' → AsAt tag' σ' r T M (asAdd a bs).1 → Q (asAdd a bs).2 σ') : c_snap_Asm_Add B ro (some ⟨T, 0, none⟩) s σ Q := by
  refine snap_Asm_Add_ok fun hs => ?_
  unfold f_snap_Asm_Add
  have h6C : 6 ∉ [7, 8, 9, 31, r] := by simp at hr0 ⊢; omega
  have hln : s.len = ss.length := by have := (hx tag σ (StepS.refl hs)).1; rw [this, List.length_map]
  suffices ∀ (m j : Nat) (a' : As) (tag1 : Nat → Nat) (σ1 : AH), j + m = ss.length → asAdd a bs = asAdd a' (bs.drop j) → StepS [7, 8, 9, 31, r] ro tag σ tag1 σ1 → AsAt tag1 σ1 r T M a' → lfpD (l2_snap_Asm_Add B ro (some ⟨T, 0, none⟩) s Q) (j : Int) σ1 from
    this _ 0 a tag σ (Nat.zero_add _) (by simp) (StepS.refl hs) h
  intro m
  induction m with
  | zero =>
    intro j a' tag1 σ1 hj he st1 h1
    refine lfpD.intro ?_
    unfold l2_snap_Asm_Add
    rw [if_neg (by omega)]
    unfold j1_snap_Asm_Add
    rw [List.drop_of_length_le (by omega)] at he
    rw [he] at hQ
    exact hQ tag1 σ1 st1 h1
  | succ m ih =>
    intro j a' tag1 σ1 hj he st1 h1
    have hjs : j < ss.length := by omega
    have hjb : j < bs.length := by omega
    have hrd := hx tag1 σ1 st1
    obtain ⟨hd, hbl⟩ := hb j _ _ (List.getElem?_eq_getElem hjs) (List.getElem?_eq_getElem hjb)
    have hcell : ∀ p, s.a = some p → acell ro σ1 (p.add (Int.toNat (j : Int) * 1)) = some (Sl.v ss[j]) := fun p hp => by
      rw [Int.toNat_natCast, Nat.mul_one]
      exact hrd.2.2 p hp j _ (by rw [List.getElem?_map, List.getElem?_eq_getElem hjs]; rfl)
    have edrop : bs.drop j = bs[j] :: bs.drop (j + 1) := List.drop_eq_getElem_cons hjb
    rw [edrop] at he
    generalize ss[j] = sj at hd hcell
    generalize bs[j] = b at hd hbl he
    obtain ⟨p, hp⟩ : ∃ p, s.a = some p := by
      cases e : s.a with
      | none => have := hrd.2.1 e; simp at this; rw [this] at hjs; simp at hjs
      | some p => exact ⟨p, rfl⟩
    refine lfpD.intro ?_
    unfold l2_snap_Asm_Add
    rw [if_pos (by omega)]
    refine ⟨p, hp, by omega, by omega, sj, hcell p hp, ?_⟩
    refine readChunk_ok (hd.keepS st1 h6C) hbl fun sp tag2 σ2 st2 r2 => ?_
    refine nw_cells (tag := tag2) 9 st2.sep fun Y tag3 σ3 st3 r3 => ?_
    refine r3.stAll (st3 []).sep rfl (by simp [storable, Sl.v]) fun σ4 st4 r4 => ?_
    simp only [List.mem_cons, List.not_mem_nil, or_false, not_or] at hr0
    have hmod : r % 64 = r := Nat.mod_eq_of_lt hr
    have st24 : StepS [7, 8, 9, 31] ro tag1 σ1 tag3 σ4 := (st2.mono (by decide)).trans (((st3 []).s (by simp)).trans (st4.s (by decide)))
    have h4 := h1.keepS st24 (by rw [hmod]; simp; omega) (by decide)
    have r24 := (r2.keep (st3 []) (by simp)).keep st4 (by decide)
    have s04 : StepS [7, 8, 9, 31, r] ro tag σ tag3 σ4 := st1.trans (st24.mono (fun x hx => by simp at hx ⊢; omega))
    have hs4 := st4.sep
    rw [asAdd_cons] at he
    by_cases k0 : ckOk b = true
    rotate_left
    · rw [if_pos k0]
      have e1 : asAdd1 a' b = (a', 50) := by unfold asAdd1; rw [if_neg k0]
      rw [e1, if_neg (by simp)] at he
      rw [he] at hQ
      exact hQ tag3 σ4 s04 h4
    rw [if_neg (by simpa using k0)]
    obtain ⟨pT, hpT, hgT⟩ := h4.cell.ptr hs4 (by simp)
    cases hpT
    refine ⟨_, rfl, _, hgT 3 _ rfl, ?_⟩
    -- what follows the beginning
    have next : ∀ tag5 σ5, StepS [r] ro tag3 σ4 tag5 σ5 → AsAt tag5 σ5 r T M (a'.begin (ckOf b)) → j9_snap_Asm_Add B ro (some ⟨T, 0, none⟩) s Y (j : Int) Q (lfpD (l2_snap_Asm_Add B ro (some ⟨T, 0, none⟩) s Q)) σ5 := fun tag5 σ5 st5 h5 => by
      have s05 : StepS [7, 8, 9, 31, r] ro tag σ tag5 σ5 := s04.trans (st5.mono (by simp))
      refine put_ok hr (by simp; omega) st5.sep h5 (r24.keepS st5 (by simp; omega)) (r4.keepS st5 (by simp; omega)) (by omega) (fun hf => ?_) fun hf σ6 st6 h6 => ?_
      · have e1 : asAdd1 a' b = (a'.begin (ckOf b), 51) := by unfold asAdd1; rw [if_pos k0, hf]; rfl
        rw [e1, if_neg (by simp)] at he
        rw [he] at hQ
        exact hQ tag5 σ5 s05 h5
      · have e1 : asAdd1 a' b = ({ (a'.begin (ckOf b)) with parts := qput (a'.begin (ckOf b)).parts ((ckOf b).at' : Int) (ckOf b).part }, 0) := by unfold asAdd1; rw [if_pos k0, if_pos hf]
        rw [e1, if_pos rfl] at he
        exact ih (j + 1) _ tag5 σ6 (by omega) he (s05.trans (st6.mono (by simp))) h6
    by_cases k1 : a'.count = 0
    · rw [if_pos (by omega)]
      have eb : a'.begin (ckOf b) = { a' with length := (ckOf b).length, sum := (ckOf b).sum, number := (ckOf b).number, count := (ckOf b).count } := by unfold As.begin; rw [if_pos k1]
      refine lent_roles tag3 [9] ?_
      have hsL : SL.Sep (join ro (inR tag3 [9] σ4)) (outR tag3 [9] σ4) := hs4.lentR
      refine ⟨_, r4.lendR hs4 (i := 3) (by decide) rfl rfl, ((ckOf b).length : Int), ((ckOf b).sum : Int), ((ckOf b).number : Int), cellsAt_of 0 fun i v hv => ?_, _, rfl, ?_⟩
      · rw [Nat.zero_add]
        refine r4.lendR hs4 (i := i) (by decide) rfl ?_
        match i, hv with
        | 0, hv => exact hv
        | 1, hv => exact hv
        | 2, hv => exact hv
      refine Row.stPre [Zt.vI (ckOf b).length, Zt.vI (ckOf b).sum, Zt.vI (ckOf b).number] 0 _ _ (h4.cell.outR (L := [9]) (by simp; omega)) hsL (by simp) (by simp [storable]) fun σ5 st5 r5 => ?_
      refine ⟨_, rfl, ?_⟩
      show stN ((⟨T, 0, none⟩ : Addr).add (3 * 1)) _ _ _ _
      refine r5.st st5.sep rfl (by simp) rfl fun σ6 st6 r6 => ?_
      intro hdis
      have stB := (st5.trans st6).backR hs4 hdis
      have r7 := r6.backR hdis
      refine next _ _ (stB.s (by simp; omega)) ?_
      rw [eb]
      obtain ⟨qs, e1, hm, hd'⟩ := h4.qs
      exact ⟨r7, qs, e1, hm.keep stB (by simp), fun q hq => (hd' q hq).keep stB (by simp; omega)⟩
    · rw [if_neg (by omega)]
      have eb : a'.begin (ckOf b) = a' := by unfold As.begin; rw [if_neg k1]
      exact next tag3 σ4 (StepS.refl hs4) (by rw [eb]; exact h4)
end Go.Proofs.YtfobjidchipdaaaGreatDoor.Sn

/- Chunks put together, the walk: Done, Missing. -/
namespace Go.Proofs.YtfobjidchipdaaaGreatDoor.Sn
open Go Go.Proofs.YtfobjidchipdaaaGreatDoor.SL Go.Proofs.YtfobjidchipdaaaGreatDoor.G Go.Proofs.YtfobjidchipdaaaGreatDoor.Pa Go.Proofs.YtfobjidchipdaaaGreatDoor.Wi
set_option linter.unusedSimpArgs false
set_option linter.unusedVariables false
set_option maxRecDepth 100000
variable {B : World} {ro σ σ' : AH} {tag tag' : Nat → Nat}
theorem u23s : Tryz.prog.underlying 23 = some (.slice 3) := by kernel_rfl
/-- the snapshot's digest, in memory, against the data's -/
theorem tail_ok {r T M : Nat} {a : As} {s : Sl} {d : Str} {Q : Int → Sl → Bool → AH → Prop} (hr : r < 64) (hr0 : r ∉ [0, 6, 7, 8, 9, 12, 31]) (h : AsAt tag σ r T M a) (hs : SL.Sep ro σ) (hd : Row tag σ 12 5 s (d.map Zt.vU)) (hl : d.length < 4611686018427387904)
    (hno : ¬ (d.length = a.length ∧ crc d = a.sum) → ∀ tag' σ', StepS [0] ro tag σ tag' σ' → Q 0 ⟨none, 0, 0⟩ false σ')
    (hyes : d.length = a.length ∧ crc d = a.sum → ∀ tag' σ', StepS [0] ro tag σ tag' σ' → Q (a.number : Nat) s true σ') : j4_snap_Asm_Done B ro (some ⟨T, 0, none⟩) Q s σ := by
  unfold j4_snap_Asm_Done
  simp only [List.mem_cons, List.not_mem_nil, or_false, not_or] at hr0
  refine lent_roles tag [r] ?_
  have hsL : SL.Sep (join ro (inR tag [r] σ)) (outR tag [r] σ) := hs.lentR
  refine ⟨_, rfl, (a.length : Int), (a.sum : Int), cellsAt_of 0 fun i v hv => ?_, ?_⟩
  · rw [Nat.zero_add]
    refine h.cell.lendR hs (i := i) (by simp) rfl ?_
    match i, hv with
    | 0, hv => exact hv
    | 1, hv => exact hv
  have hdL := hd.outR (L := [r]) (by simp; omega)
  refine digestOf_ok (tag := tag) (l := d) (fun tag' σ' st => (hdL.keep st (by simp)).read st.sep) hl fun tag1 σ1 st1 => ?_
  refine ne87 ⟨_, rfl, ?_⟩
  intro hdis
  have stB := st1.backR hs hdis
  by_cases c : d.length = a.length ∧ crc d = a.sum
  · rw [decide_eq_true (show (d.length : Int) = a.length ∧ (crc d : Int) = a.sum by omega), if_neg (by simp)]
    have hc := h.cell.keep stB (by simp; omega)
    obtain ⟨p, hp, hg⟩ := hc.ptr stB.sep (by simp)
    cases hp
    exact ⟨_, rfl, _, hg 2 _ rfl, hyes c _ _ (stB.s (by decide))⟩
  · rw [decide_eq_false (show ¬ ((d.length : Int) = a.length ∧ (crc d : Int) = a.sum) by omega), if_pos (show (!false) = true from rfl)]
    exact hno c _ _ (stB.s (by decide))
theorem done_ok {r T M : Nat} {a : As} {Q : Int → Sl → Bool → AH → Prop} (hr : r < 64) (hr0 : r ∉ [0, 6, 7, 8, 9, 12, 31]) (h : AsAt tag σ r T M a) (hk : AsOk a)
    (hno : (asDone a).2.2 = false → ∀ tag' σ', StepS [0, 12] ro tag σ tag' σ' → Q 0 ⟨none, 0, 0⟩ false σ')
    (hyes : (asDone a).2.2 = true → ∀ s tag' σ', StepS [0, 12] ro tag σ tag' σ' → Row tag' σ' 12 5 s ((asData a).map Zt.vU) → Q (a.number : Nat) s true σ') : c_snap_Asm_Done B ro (some ⟨T, 0, none⟩) σ Q := by
  refine snap_Asm_Done_ok fun hs => ?_
  unfold f_snap_Asm_Done
  have hr1 := hr0
  simp only [List.mem_cons, List.not_mem_nil, or_false, not_or] at hr1
  obtain ⟨qs, e1, hm, hd⟩ := h.qs
  have hpl : a.parts.length = qs.length := by rw [e1, List.length_map]
  obtain ⟨ej, hdj⟩ := join_lent tag [r] σ
  have hc := hk.count
  -- the end without data
  have no : ∀ b : Bool, b = true → ((a.count = 0 ∨ a.parts.length < a.count)) → j1_snap_Asm_Done B ro (some ⟨T, 0, none⟩) Q b σ := by
    rintro b rfl hh
    unfold j1_snap_Asm_Done
    rw [if_pos rfl]
    exact hno (by unfold asDone; rw [if_pos hh]) tag σ (StepS.refl hs)
  -- the way with data
  have yes : ¬ (a.count = 0 ∨ a.parts.length < a.count) → j1_snap_Asm_Done B ro (some ⟨T, 0, none⟩) Q false σ := by
    intro hh
    unfold j1_snap_Asm_Done
    rw [if_neg (by simp)]
    refine nw_cells (tag := tag) 12 hs fun x tag1 σ1 st1 r1 => ?_
    have h1 := h.keep (st1 []) (by simp) (by simp) (by simp)
    obtain ⟨p, hp, hg⟩ := h1.cell.ptr (st1 []).sep (by simp)
    cases hp
    refine ⟨_, rfl, _, hg 3 _ rfl, ?_⟩
    have edn : asDone a = if (asData a).length = a.length ∧ crc (asData a) = a.sum then (a.number, asData a, true) else (0, [], false) := by unfold asDone; rw [if_neg hh]
    have hlen : ∀ j, j ≤ a.count → ((List.range j).flatMap fun (i : Nat) => (a.parts.lookup (i : Int)).getD []).length ≤ j * 1048576 := by
      intro j
      induction j with
      | zero => intro _; simp
      | succ j ih =>
        intro hj
        have := ih (by omega)
        rw [List.range_succ, List.flatMap_append, List.length_append, List.flatMap_singleton]
        have hp : ((a.parts.lookup (j : Int)).getD []).length ≤ 1048576 := by
          cases e : a.parts.lookup (j : Int) with
          | none => simp
          | some p => exact hk.part _ (qlook_mem e)
        rw [Nat.add_mul]; omega
    suffices ∀ (m j : Nat) (s : Sl) (tag2 : Nat → Nat) (σ2 : AH), j + m = a.count → Step [12] ro tag1 σ1 tag2 σ2 → Row tag2 σ2 12 5 s (((List.range j).flatMap fun (i : Nat) => (a.parts.lookup (i : Int)).getD []).map Zt.vU) → lfpD (l14_snap_Asm_Done B ro (some ⟨T, 0, none⟩) (a.count : Int) Q) (s, (j : Int)) σ2 from
      this _ 0 _ tag1 σ1 (Nat.zero_add _) (Step.refl (st1 []).sep) r1
    intro m
    induction m with
    | zero =>
      intro j s tag2 σ2 hj st2 r2
      refine lfpD.intro ?_
      unfold l14_snap_Asm_Done
      simp only
      rw [if_neg (by omega)]
      have ejc : j = a.count := by omega
      subst ejc
      have h2 := h1.keep st2 (by simp <;> omega) (by simp <;> omega) (by decide)
      have hlc := hlen _ (Nat.le_refl _)
      have r2 : Row tag2 σ2 12 5 s ((asData a).map Zt.vU) := r2
      have hbig : a.count * 1048576 ≤ 1048576 * 1048576 := Nat.mul_le_mul_right _ hc
      refine tail_ok hr hr0 h2 st2.sep r2 (by unfold asData at *; omega) (fun hf tag3 σ3 st3 => ?_) fun hf tag3 σ3 st3 => ?_
      · refine hno ?_ tag3 σ3 (((st1 []).s (by simp)).trans ((st2.s (by decide)).trans (st3.mono (by decide))))
        rw [edn, if_neg hf]
      · refine hyes ?_ s tag3 σ3 (((st1 []).s (by simp)).trans ((st2.s (by decide)).trans (st3.mono (by decide)))) (r2.keepS st3 (by decide))
        rw [edn, if_pos hf]
    | succ m ih =>
      intro j s tag2 σ2 hj st2 r2
      have h2 := h1.keep st2 (by simp <;> omega) (by simp <;> omega) (by decide)
      obtain ⟨p, hp, hg⟩ := h2.cell.ptr st2.sep (by simp)
      cases hp
      refine lfpD.intro ?_
      unfold l14_snap_Asm_Done
      simp only
      rw [if_pos (by omega)]
      refine ⟨_, rfl, _, hg 4 _ rfl, ?_⟩
      obtain ⟨qs, e1, hm, hd⟩ := h2.qs
      refine awp_lookup_int hm st2.sep u112 u3 ty22 ?_
      have el : (qs.map fun q => (q.1, Sl.v q.2.1)).lookup (j : Int) = (qs.lookup (j : Int)).map fun x => Sl.v x.1 := qlook_map (fun x : Sl × Str => Sl.v x.1) qs _
      have ep : a.parts.lookup (j : Int) = (qs.lookup (j : Int)).map fun x => x.2 := by rw [e1]; exact qlook_map (fun x : Sl × Str => x.2) qs _
      rw [el]
      obtain ⟨sp, d, hv, he, hrow⟩ : ∃ (sp : Sl) (d : Str), ((qs.lookup (j : Int)).map fun x => Sl.v x.1).getD (.slice none 0 0) = Sl.v sp ∧ (a.parts.lookup (j : Int)).getD [] = d ∧ Row tag2 σ2 6 5 sp (d.map Zt.vU) := by
        rw [ep]
        cases e : qs.lookup (j : Int) with
        | none => exact ⟨⟨none, 0, 0⟩, [], rfl, rfl, Row.nil 6 5⟩
        | some x => exact ⟨x.1, x.2, rfl, rfl, hd _ (qlook_mem e)⟩
      rw [hv]
      refine ⟨sp, rfl, ?_⟩
      have hl1 := hlen (j + 1) (by omega)
      have hbig : (j + 1) * 1048576 ≤ 1048576 * 1048576 := Nat.mul_le_mul_right _ (by omega)
      rw [List.range_succ, List.flatMap_append, List.flatMap_singleton, he, List.length_append] at hl1
      refine awp_appendN r2 st2.sep (hrow.read st2.sep) Zt.u30 ty5 rfl (by simp [storable]) (by simp only [List.length_map]; omega) (by decide) fun s' tag3 σ3 st3 r3 => ?_
      refine ⟨s', rfl, ?_⟩
      rw [Pa.inc j (by omega)]
      refine ih (j + 1) s' tag3 σ3 (by omega) (st2.trans (st3 _ (.inr (by simp)))) ?_
      rw [List.range_succ, List.flatMap_append, List.flatMap_singleton, he, List.map_append]
      exact r3
  refine lent_roles tag [r] ?_
  have hsL : SL.Sep (join ro (inR tag [r] σ)) (outR tag [r] σ) := hs.lentR
  refine ⟨_, rfl, _, h.cell.lendR hs (i := 3) (by simp) rfl rfl, ?_⟩
  by_cases c0 : a.count = 0
  · rw [if_pos (by omega)]
    intro _
    rw [ej]
    exact no true rfl (.inl c0)
  · rw [if_neg (by omega)]
    refine ⟨_, rfl, _, rfl, _, h.cell.lendR hs (i := 3) (by simp) rfl rfl, _, h.cell.lendR hs (i := 4) (by simp) rfl rfl, ?_⟩
    refine awp_len_int (hm.outR (L := [r]) (by simp)) hsL u112 ?_
    refine ⟨_, rfl, ?_⟩
    intro _
    rw [ej]
    have el : (qs.map fun q => (q.1, Sl.v q.2.1)).length = a.parts.length := by rw [List.length_map, hpl]
    rw [el]
    by_cases c1 : a.parts.length < a.count
    · rw [decide_eq_true (show (a.parts.length : Int) < a.count by omega)]
      exact no true rfl (.inr c1)
    · rw [decide_eq_false (show ¬ (a.parts.length : Int) < a.count by omega)]
      exact yes (by omega)
theorem missing_ok {r T M : Nat} {a : As} {Q : Sl → AH → Prop} (hr : r < 64) (hr0 : r ∉ [0, 6, 7, 8, 9, 13, 31]) (h : AsAt tag σ r T M a) (hk : AsOk a)
    (hQ : ∀ s tag' σ', StepS [13] ro tag σ tag' σ' → Row tag' σ' 13 3 s ((asMissing a).map Zt.vI) → Q s σ') : c_snap_Asm_Missing B ro (some ⟨T, 0, none⟩) σ Q := by
  refine snap_Asm_Missing_ok fun hs => ?_
  unfold f_snap_Asm_Missing
  simp only [List.mem_cons, List.not_mem_nil, or_false, not_or] at hr0
  obtain ⟨p, hp, hg⟩ := h.cell.ptr hs (by simp)
  cases hp
  refine ⟨_, rfl, _, hg 3 _ rfl, ?_⟩
  have hc := hk.count
  suffices ∀ (m j : Nat) (s : Sl) (tag1 : Nat → Nat) (σ1 : AH), j + m = a.count → Step [13] ro tag σ tag1 σ1 → Row tag1 σ1 13 3 s ((((List.range j).filter fun (i : Nat) => (a.parts.lookup (i : Int)).isNone).map fun (i : Nat) => (i : Int)).map Zt.vI) → lfpD (l5_snap_Asm_Missing B ro (some ⟨T, 0, none⟩) (a.count : Int) Q) (s, (j : Int)) σ1 from
    this _ 0 _ tag σ (Nat.zero_add _) (Step.refl hs) (Row.nil 13 3)
  intro m
  induction m with
  | zero =>
    intro j s tag1 σ1 hj st1 r1
    refine lfpD.intro ?_
    unfold l5_snap_Asm_Missing
    simp only
    rw [if_neg (by omega)]
    unfold j1_snap_Asm_Missing
    have : j = a.count := by omega
    subst this
    exact hQ s tag1 σ1 (st1.s (by decide)) r1
  | succ m ih =>
    intro j s tag1 σ1 hj st1 r1
    have h1 := h.keep st1 (by simp <;> omega) (by simp <;> omega) (by decide)
    obtain ⟨p, hp, hg⟩ := h1.cell.ptr st1.sep (by simp)
    cases hp
    refine lfpD.intro ?_
    unfold l5_snap_Asm_Missing
    simp only
    rw [if_pos (by omega)]
    refine ⟨_, rfl, _, hg 4 _ rfl, ?_⟩
    obtain ⟨qs, e1, hm, hd⟩ := h1.qs
    refine awp_lookup_intok hm st1.sep u112 u3 ty22 ?_
    have el : (qs.map fun q => (q.1, Sl.v q.2.1)).lookup (j : Int) = (qs.lookup (j : Int)).map fun x => Sl.v x.1 := qlook_map (fun x : Sl × Str => Sl.v x.1) qs _
    have ep : a.parts.lookup (j : Int) = (qs.lookup (j : Int)).map fun x => x.2 := by rw [e1]; exact qlook_map (fun x : Sl × Str => x.2) qs _
    rw [el]
    have efl : ((List.range (j + 1)).filter fun (i : Nat) => (a.parts.lookup (i : Int)).isNone) = ((List.range j).filter fun (i : Nat) => (a.parts.lookup (i : Int)).isNone) ++ if (a.parts.lookup (j : Int)).isNone then [j] else [] := by
      rw [List.range_succ, List.filter_append]
      congr 1
      by_cases hh : (a.parts.lookup (j : Int)).isNone = true <;> simp [hh]
    have hfl : ((List.range j).filter fun (i : Nat) => (a.parts.lookup (i : Int)).isNone).length ≤ j := by
      have := List.length_filter_le (fun (i : Nat) => (a.parts.lookup (i : Int)).isNone) (List.range j)
      rwa [List.length_range] at this
    cases e : qs.lookup (j : Int) with
    | some x =>
      refine ⟨x.1, true, rfl, ?_⟩
      rw [if_neg (by simp)]
      unfold j8_snap_Asm_Missing
      rw [Pa.inc j (by omega)]
      refine ih (j + 1) s tag1 σ1 (by omega) st1 ?_
      rw [efl, ep, e]; simpa using r1
    | none =>
      refine ⟨⟨none, 0, 0⟩, false, rfl, ?_⟩
      rw [if_pos (by simp)]
      refine nw_cells (tag := tag1) 0 st1.sep fun b tag2 σ2 st2 r2 => ?_
      refine awp_append1 (r1.keep (st2 []) (by simp)) (st2 []).sep u23s ty3 rfl rfl (Row.cell1 r2 (st2 []).sep) rfl (by simp only [List.length_map]; omega) (by decide) fun s2 tag3 σ3 st3 r3 => ?_
      refine ⟨s2, rfl, ?_⟩
      unfold j8_snap_Asm_Missing
      rw [Pa.inc j (by omega)]
      refine ih (j + 1) s2 tag3 σ3 (by omega) (st1.trans ((st2 _).trans st3)) ?_
      rw [efl, ep, e]; simpa using r3
end Go.Proofs.YtfobjidchipdaaaGreatDoor.Sn

/- Chunks made: what they are, and the walk. -/
namespace Go.Proofs.YtfobjidchipdaaaGreatDoor.Sn
open Go Go.Proofs.YtfobjidchipdaaaGreatDoor.SL Go.Proofs.YtfobjidchipdaaaGreatDoor.G Go.Proofs.YtfobjidchipdaaaGreatDoor.Pa Go.Proofs.YtfobjidchipdaaaGreatDoor.Wi
set_option linter.unusedSimpArgs false
set_option linter.unusedVariables false
set_option maxRecDepth 100000
variable {B : World} {ro σ σ' : AH} {tag tag' : Nat → Nat}
def cnt (n sz : Nat) : Nat := if 1 < (n + sz - 1) / sz then (n + sz - 1) / sz else 1
def partOf (d : Str) (sz i : Nat) : Str := (d.drop (i * sz)).take sz
def ckAt (k : Nat) (d : Str) (sz i : Nat) : Ck := ⟨k, cnt d.length sz, i, d.length, crc d, partOf d sz i⟩
def chE (number : Int) (n : Nat) (size : Int) : Int := if number < 0 ∨ 4611686018427387903 < number then 10 else if 1048576 < n then 14 else if size < 1 ∨ 32768 < size then 10 else 0
theorem cnt_mul {n sz : Nat} (h : 1 ≤ sz) : n ≤ cnt n sz * sz ∧ cnt n sz * sz ≤ n + sz ∧ 1 ≤ cnt n sz := by
  unfold cnt
  have h1 := Nat.div_add_mod (n + sz - 1) sz
  have h2 := Nat.mod_lt (n + sz - 1) (show sz > 0 by omega)
  have h3 : sz * ((n + sz - 1) / sz) = (n + sz - 1) / sz * sz := Nat.mul_comm _ _
  generalize (n + sz - 1) / sz = q at *
  split
  · refine ⟨by omega, by omega, by omega⟩
  · rename_i hc
    have h0 : q = 0 ∨ q = 1 := by omega
    rw [Nat.one_mul]
    refine ⟨?_, by omega, by omega⟩
    rcases h0 with h0 | h0
    · rw [h0] at h3 h1; omega
    · rw [h0] at h3 h1; omega
theorem cnt_lt {n sz i : Nat} (h : 1 ≤ sz) (hi : i < cnt n sz) : i * sz ≤ n := by
  have h1 := Nat.div_add_mod (n + sz - 1) sz
  have h2 := Nat.mod_lt (n + sz - 1) (show sz > 0 by omega)
  have h4' : sz * ((n + sz - 1) / sz) = (n + sz - 1) / sz * sz := Nat.mul_comm _ _
  unfold cnt at hi
  generalize (n + sz - 1) / sz = q at *
  split at hi
  · have h3 : (i + 1) * sz ≤ q * sz := Nat.mul_le_mul_right _ (by omega)
    rw [Nat.add_mul] at h3
    omega
  · have : i = 0 := by omega
    subst this; omega
theorem parts_join {d : Str} {sz : Nat} (h : 1 ≤ sz) (k : Nat) : ((List.range k).flatMap fun i => partOf d sz i) = d.take (k * sz) := by
  induction k with
  | zero => simp
  | succ k ih =>
    rw [List.range_succ, List.flatMap_append, List.flatMap_singleton, ih]
    unfold partOf
    rw [Nat.add_mul, Nat.one_mul, List.take_add]
theorem parts_all {d : Str} {sz : Nat} (h : 1 ≤ sz) : ((List.range (cnt d.length sz)).flatMap fun i => partOf d sz i) = d := by
  rw [parts_join h, List.take_of_length_le (cnt_mul h).1]
theorem partOf_len (d : Str) (sz i : Nat) : (partOf d sz i).length ≤ sz ∧ (partOf d sz i).length ≤ d.length := by
  unfold partOf; rw [List.length_take, List.length_drop]; omega
theorem ckAt_right {k : Nat} {d : Str} {sz i : Nat} (hk : k < 4611686018427387904) (hd : d.length ≤ 1048576) (h1 : 1 ≤ sz) (h2 : sz ≤ 32768) (hi : i < cnt d.length sz) : (ckAt k d sz i).right ∧ ckFits (ckAt k d sz i) = true := by
  have hc := (cnt_mul (n := d.length) h1).2.1
  have hc2 : cnt d.length sz * 1 ≤ cnt d.length sz * sz := Nat.mul_le_mul_left _ h1
  have hp := partOf_len d sz i
  have hcr := crc_lt d
  have hcl : cnt d.length sz ≤ 1048576 := by
    unfold cnt
    split
    · have : (d.length + sz - 1) / sz ≤ d.length := by
        rcases Nat.eq_or_lt_of_le h1 with e | e
        · subst e; simp
        · rcases Nat.eq_zero_or_pos d.length with e0 | e0
          · rw [e0]; rw [Nat.div_eq_of_lt (by omega)]; omega
          · exact Nat.div_le_of_le_mul (by
              have : d.length + sz - 1 ≤ d.length * sz := by
                have : (d.length - 1) * (sz - 1) + (d.length + sz - 1) = d.length * sz := by
                  obtain ⟨a, ha⟩ : ∃ a, d.length = a + 1 := ⟨d.length - 1, by omega⟩
                  obtain ⟨b, hb⟩ : ∃ b, sz = b + 1 := ⟨sz - 1, by omega⟩
                  rw [ha, hb]; simp only [Nat.add_sub_cancel, Nat.add_mul, Nat.mul_add, Nat.mul_one, Nat.one_mul]; omega
                omega
              rw [Nat.mul_comm] at this; exact this)
      omega
    · omega
  refine ⟨⟨hk, ?_, ?_, ?_, ?_, ?_⟩, ?_⟩
  · show cnt d.length sz < _; omega
  · show i < _; omega
  · show d.length < _; omega
  · show crc d < _; omega
  · show (partOf d sz i).length < _; omega
  · unfold ckFits
    have a1 : 1 ≤ cnt d.length sz := (cnt_mul h1).2.2
    simp only [Bool.and_eq_true, decide_eq_true_eq]
    exact ⟨a1, hcl, hi, hd, hp.2⟩
theorem wnums : ∀ {ns : List Int} {a : Str}, ns.all rightN = true → ns.foldl wnum (a, false) = (a ++ nums ns, false) := by
  intro ns
  induction ns with
  | nil => intro a _; simp [nums]
  | cons n ns ih =>
    intro a h
    rw [List.all_cons, Bool.and_eq_true] at h
    rw [List.foldl_cons]
    have : wnum (a, false) n = (a ++ vput n.toNat, false) := by unfold wnum; rw [if_pos h.1]
    rw [this, ih h.2]
    unfold nums
    rw [List.flatMap_cons, List.append_assoc]
theorem wtext_ok {a p : Str} (h : p.length < 4611686018427387904) : wtext (a, false) p = (a ++ blob p, false) := by
  unfold wtext wnum
  rw [if_pos (by unfold rightN; simp; omega)]
  unfold blob
  simp
theorem enc_eq (k : Nat) (d : Str) (sz i : Nat) : nums [(k : Int), (cnt d.length sz : Int), (i : Int), (d.length : Int), (crc d : Int)] ++ blob (partOf d sz i) = encCk (ckAt k d sz i) := by
  unfold nums encCk ckAt
  simp
theorem u44 : Tryz.prog.underlying 44 = some (.slice 22) := by kernel_rfl
theorem count_eq {n sz : Nat} (h1 : 1 ≤ sz) (h2 : sz ≤ 32768) (hn : n ≤ 1048576) :
    (if 1 < IntKind.i64.wrap (Int.tdiv (IntKind.i64.wrap ((IntKind.i64.wrap ((n : Int) + (sz : Int))) - 1)) (sz : Int)) then IntKind.i64.wrap (Int.tdiv (IntKind.i64.wrap ((IntKind.i64.wrap ((n : Int) + (sz : Int))) - 1)) (sz : Int)) else 1) = (cnt n sz : Int) := by
  rw [w64_eq (n := (n : Int) + sz) (by omega) (by omega), w64_eq (n := (n : Int) + sz - 1) (by omega) (by omega)]
  rw [show ((n : Int) + sz - 1) = ((n + sz - 1 : Nat) : Int) by omega, Int.tdiv_eq_ediv_of_nonneg (by omega)]
  rw [show (((n + sz - 1 : Nat) : Int) / (sz : Int)) = (((n + sz - 1) / sz : Nat) : Int) from rfl]
  have hq : (n + sz - 1) / sz ≤ n + sz - 1 := Nat.div_le_self _ _
  unfold cnt
  generalize (n + sz - 1) / sz = q at *
  rw [w64_eq (by omega) (by omega)]
  by_cases c : 1 < q
  · rw [if_pos (by omega), if_pos c]
  · rw [if_neg (by omega), if_neg c]; rfl
theorem chunks_ok {number size : Int} {s : Sl} {d : Str} {Q : Sl → Int → AH → Prop} (hd : SL.Data ro tag σ s (d.map Zt.vU)) (hcap : s.len ≤ s.cap) (hdl : d.length ≤ 140737488355328)
    (hno : chE number d.length size ≠ 0 → Q ⟨none, 0, 0⟩ (chE number d.length size) σ)
    (hok : ∀ k sz : Nat, chE number d.length size = 0 → number = k → size = sz → k < 4611686018427387904 → d.length ≤ 1048576 → 1 ≤ sz → sz ≤ 32768 → ∀ (s' : Sl) (ss : List Sl) tag' σ', StepS [0, 1, 14, 15, 30] ro tag σ tag' σ' → Row tag' σ' 14 22 s' (ss.map Sl.v) → ss.length = cnt d.length sz → (∀ (i : Nat) (x : Sl), ss[i]? = some x → Row tag' σ' 6 5 x ((encCk (ckAt k d sz i)).map Zt.vU)) → Q s' 0 σ') :
    c_snap_Chunks B ro number s size σ Q := by
  refine snap_Chunks_ok fun hs => ?_
  unfold f_snap_Chunks
  have hln : s.len = d.length := by rw [hd.len, List.length_map]
  unfold chE at hno hok
  by_cases c1 : number < 0 ∨ 4611686018427387903 < number
  · rw [if_pos c1] at hno ⊢; exact hno (by decide)
  rw [if_neg c1] at hno hok ⊢
  by_cases c2 : 1048576 < d.length
  · rw [if_pos c2] at hno; rw [if_pos (by omega)]; exact hno (by decide)
  rw [if_neg c2] at hno hok
  rw [if_neg (by omega)]
  by_cases c3 : size < 1 ∨ 32768 < size
  · rw [if_pos c3] at hno ⊢; exact hno (by decide)
  rw [if_neg c3] at hno hok ⊢
  obtain ⟨k, rfl⟩ := Int.eq_ofNat_of_zero_le (a := number) (by omega)
  obtain ⟨sz, rfl⟩ := Int.eq_ofNat_of_zero_le (a := size) (by omega)
  have hok' := hok k sz rfl rfl rfl (by omega) (by omega) (by omega) (by omega)
  clear hok hno
  have h1 : 1 ≤ sz := by omega
  have h2 : sz ≤ 32768 := by omega
  refine ⟨by omega, ?_⟩
  refine digestOf_ok (tag := tag) (l := d) (fun tag' σ' st => (hd.keep st (by simp)).read st.sep) (by omega) fun tag1 σ1 st1 => ?_
  refine nw_cells (tag := tag1) 15 st1.sep fun X tag2 σ2 st2 r2 => ?_
  refine r2.stAll (st2 []).sep rfl (by simp [storable]) fun σ3 st3 r3 => ?_
  have s03 : StepS [0, 1, 14, 15, 30] ro tag σ tag2 σ3 := (st1.s (by decide)).trans (((st2 []).s (by simp)).trans (st3.s (by decide)))
  have hcm := cnt_mul (n := d.length) h1
  have hcr := crc_lt d
  suffices ∀ (m i : Nat) (s' : Sl) (ss : List Sl) (tag4 : Nat → Nat) (σ4 : AH), i + m = cnt d.length sz → StepS [0, 1, 14, 30] ro tag2 σ3 tag4 σ4 → Row tag4 σ4 14 22 s' (ss.map Sl.v) → ss.length = i → (∀ (j : Nat) (x : Sl), ss[j]? = some x → Row tag4 σ4 6 5 x ((encCk (ckAt k d sz j)).map Zt.vU)) → lfpD (l5_snap_Chunks B ro (k : Int) s (sz : Int) X Q) (s', (i : Int)) σ4 from
    this _ 0 _ [] tag2 σ3 (Nat.zero_add _) (StepS.refl st3.sep) (Row.nil 14 22) rfl (fun j x h => by cases h)
  intro m
  induction m with
  | zero =>
    intro i s' ss tag4 σ4 hi st4 r4 hl hrows
    refine lfpD.intro ?_
    unfold l5_snap_Chunks
    simp only
    rw [hln, count_eq h1 h2 (by omega), if_neg (by omega)]
    unfold j3_snap_Chunks
    exact hok' s' ss tag4 σ4 (s03.trans (st4.mono (by decide))) r4 (by omega) hrows
  | succ m ih =>
    intro i s' ss tag4 σ4 hi st4 r4 hl hrows
    have hil : i < cnt d.length sz := by omega
    have hlo := cnt_lt h1 hil
    have hpl := partOf_len d sz i
    obtain ⟨hrt, hft⟩ := ckAt_right (k := k) (d := d) (sz := sz) (i := i) (by omega) (by omega) h1 h2 hil
    have hcl : cnt d.length sz < 4611686018427387904 := hrt.2.1
    have hcl2 : cnt d.length sz ≤ 1048576 := by
      unfold ckFits at hft
      simp only [Bool.and_eq_true, decide_eq_true_eq] at hft
      exact hft.2.1
    refine lfpD.intro ?_
    generalize hY : lfpD (l5_snap_Chunks B ro (k : Int) s (sz : Int) X Q) = Y
    unfold l5_snap_Chunks
    simp only
    rw [hln, count_eq h1 h2 (by omega), if_pos (by omega)]
    refine newWriter_ok (tag := tag4) (r := 30) fun W tag5 σ5 st5 b5 => ?_
    have r5 := (r3.keepS st4 (by decide)).keep (st5 []) (by simp)
    obtain ⟨p, hp, hg⟩ := r5.ptr (st5 []).sep (by simp)
    cases hp
    refine ⟨_, hg 0 _ rfl, _, hg 1 _ rfl, ?_⟩
    refine nw_cells (tag := tag5) 3 (st5 []).sep fun Y tag6 σ6 st6 r6 => ?_
    have hrn : [(k : Int), (cnt d.length sz : Int), (i : Int), (d.length : Int), (crc d : Int)].all rightN = true := by
      have rn : ∀ n : Nat, n < 4611686018427387904 → rightN (n : Int) = true := fun n h => by unfold rightN; simp; omega
      simp [rn k (by omega), rn (cnt d.length sz) hcl, rn i (by omega), rn d.length (by omega), rn (crc d) (by omega)]
    refine nums_ok (r := 30) (q := 3) (ns := [(k : Int), (cnt d.length sz : Int), (i : Int), (d.length : Int), (crc d : Int)]) (a := ([], false)) (by decide) (by decide) (b5.keep (st6 []) (by simp) (by simp)) (st6 []).sep (by simp) r6 fun tag7 σ7 st7 b7 => ?_
    rw [wnums hrn, List.nil_append] at b7
    have hnl := nums_len hrn
    have hnl : (nums [(k : Int), (cnt d.length sz : Int), (i : Int), (d.length : Int), (crc d : Int)]).length ≤ 45 := by simpa using hnl
    have hi1 : (i + 1) * sz ≤ cnt d.length sz * sz := Nat.mul_le_mul_right _ (by omega)
    have hadd : (i + 1) * sz = i * sz + sz := by rw [Nat.add_mul, Nat.one_mul]
    rw [Pa.inc i (by omega)]
    rw [show ((i : Int) * (sz : Int)) = ((i * sz : Nat) : Int) by simp, show (((i + 1 : Nat) : Int) * (sz : Int)) = (((i + 1) * sz : Nat) : Int) by simp]
    rw [w64_eq (n := ((i * sz : Nat) : Int)) (by omega) (by omega), w64_eq (n := (((i + 1) * sz : Nat) : Int)) (by omega) (by omega)]
    obtain ⟨hi', e1, e2⟩ : ∃ hi' : Nat, (if (((i + 1) * sz : Nat) : Int) < ((d.length : Nat) : Int) then (((i + 1) * sz : Nat) : Int) else ((d.length : Nat) : Int)) = (hi' : Int) ∧ hi' = if (i + 1) * sz < d.length then (i + 1) * sz else d.length := by
      by_cases c : (i + 1) * sz < d.length
      · exact ⟨_, by rw [if_pos (by omega)], by rw [if_pos c]⟩
      · exact ⟨_, by rw [if_neg (by omega)], by rw [if_neg c]⟩
    rw [e1]
    have hb1 : i * sz ≤ hi' ∧ hi' ≤ d.length := by rw [e2]; split <;> omega
    refine ⟨⟨⟨by omega, by omega⟩, by omega, by simp only [cutHi]; omega⟩, ?_⟩
    rw [Int.toNat_natCast, Int.toNat_natCast]
    have hpart : (d.drop (i * sz)).take (hi' - i * sz) = partOf d sz i := by
      unfold partOf
      rw [e2]
      split
      · congr 1; omega
      · rw [List.take_of_length_le (by rw [List.length_drop]; exact Nat.le_refl _), List.take_of_length_le (by rw [List.length_drop]; omega)]
    refine nw_cells (tag := tag7) 5 st7.sep fun Z tag8 σ8 st8 r8 => ?_
    have s38 : StepS [0, 1, 14, 15, 30] ro tag2 σ3 tag8 σ8 := (st4.mono (by decide)).trans (((st5 []).s (by simp)).trans (((st6 []).s (by simp)).trans ((st7.s (by decide)).trans ((st8 []).s (by simp)))))
    have hd8 := hd.keepS (s03.trans s38) (by decide)
    have hsrc : ∀ tag' σ', Step [30, 30 + 64, 1] ro tag8 σ8 tag' σ' → SL.Read ro σ' ⟨cutA s.a (i * sz) s.cap 1, hi' - i * sz, s.cap - i * sz⟩ ((partOf d sz i).map Zt.vU) := fun tag' σ' st => by
      have hrd := (hd8.keep st (by decide)).read st.sep
      have := read_take (read_drop hrd hcap (e := i * sz) (by omega)) (n := hi' - i * sz) (c := s.cap - i * sz) (by rw [List.length_drop]; omega)
      rw [hpart] at this; exact this
    refine blobs1_ok (r := 30) (q := 5) (p := partOf d sz i) (a := (nums [(k : Int), (cnt d.length sz : Int), (i : Int), (d.length : Int), (crc d : Int)], false)) (b7.keep (st8 []) (by simp) (by simp)) (by decide) (by decide) (st8 []).sep (by simp only; omega) r8 (by simp only; rw [← hpart, List.length_take, List.length_drop]; omega) hsrc fun tag9 σ9 st9 b9 => ?_
    rw [wtext_ok (by omega), enc_eq] at b9
    have hel : (encCk (ckAt k d sz i)).length ≤ 100000 := by
      rw [← enc_eq, List.length_append]
      unfold blob
      rw [List.length_append]
      have := vput_len9 (n := (partOf d sz i).length) (by omega)
      omega
    refine out_ok (tag := tag9) (a := (encCk (ckAt k d sz i), false)) b9 st9.sep (by simp only; omega) (fun h => by cases h) fun _ so tagA σA stA rA => ?_
    refine nw_cells (tag := tagA) 0 (stA []).sep fun V tagB σB stB rB => ?_
    have s4B : StepS [0, 1, 30] ro tag4 σ4 tagB σB := ((st5 []).s (by simp)).trans (((st6 []).s (by simp)).trans ((st7.s (by decide)).trans (((st8 []).s (by simp)).trans ((st9.s (by decide)).trans (((stA []).s (by simp)).trans ((stB []).s (by simp)))))))
    refine awp_append1 (r4.keepS s4B (by decide)) (stB []).sep u44 ty22 rfl rfl (Row.cell1 rB (stB []).sep) rfl (by rw [List.length_map]; omega) (by decide) fun s2 tagC σC stC rC => ?_
    refine ⟨s2, rfl, ?_⟩
    have s4C : StepS [0, 1, 14, 30] ro tag4 σ4 tagC σC := (s4B.mono (by decide)).trans (stC.s (by decide))
    rw [← hY]
    refine ih (i + 1) s2 (ss ++ [so]) tagC σC (by omega) (st4.trans s4C) (by rw [List.map_append]; exact rC) (by simp; omega) fun j x hx => ?_
    rcases Nat.lt_or_ge j ss.length with h | h
    · rw [List.getElem?_append_left h] at hx
      exact (hrows j x hx).keepS s4C (by decide)
    · rw [List.getElem?_append_right h] at hx
      have hj : j = i := by
        rcases Nat.eq_zero_or_pos (j - ss.length) with h0 | h0
        · omega
        · rw [List.getElem?_eq_none (by simp; omega)] at hx; cases hx
      subst hj
      rw [hl, Nat.sub_self] at hx
      cases hx
      exact (rA.keep (stB []) (by simp)).keep stC (by decide)
end Go.Proofs.YtfobjidchipdaaaGreatDoor.Sn

/- Files by their names, as a disk has them: the list of pairs, and how it lies in memory. -/
namespace Go.Proofs.YtfobjidchipdaaaGreatDoor.Dk
open Go Go.Proofs.YtfobjidchipdaaaGreatDoor.SL
set_option linter.unusedSimpArgs false
set_option linter.unusedVariables false
variable {P : Program} {B : World} {ro σ σ' : AH} {tag tag' : Nat → Nat}

/-! ### lists of names and what belongs to them -/
section
variable {β : Type}
def aput : List (Str × β) → Str → β → List (Str × β)
  | [], k, v => [(k, v)]
  | (k', v') :: r, k, v => if k = k' then (k, v) :: r else (k', v') :: aput r k v
def adel : List (Str × β) → Str → List (Str × β)
  | [], _ => []
  | (k', v') :: r, k => if k = k' then r else (k', v') :: adel r k
theorem mem_lookup : ∀ {ps : List (Str × β)} {k : Str} {x : β}, ps.lookup k = some x → (k, x) ∈ ps := by
  intro ps
  induction ps with
  | nil => intro k x h; cases h
  | cons p ps ih =>
    intro k x h
    obtain ⟨k', v'⟩ := p
    rw [List.lookup_cons] at h
    by_cases e : k = k'
    · subst e; simp at h; subst h; simp
    · rw [show (k == k') = false by simpa using e] at h
      exact List.mem_cons_of_mem _ (ih h)
theorem lookup_key {ps : List (Str × β)} {k : Str} : ps.lookup k = none ↔ k ∉ ps.map (·.1) := by
  rw [List.lookup_eq_none_iff]
  constructor
  · intro h hm
    obtain ⟨p, hp, e⟩ := List.mem_map.1 hm
    have := h p hp
    simp at this; exact this e.symm
  · intro h p hp
    simp
    intro e
    exact h (List.mem_map.2 ⟨p, hp, e.symm⟩)
theorem lookup_mem {ps : List (Str × β)} (hn : (ps.map (·.1)).Nodup) {k : Str} {x : β} (h : (k, x) ∈ ps) : ps.lookup k = some x := by
  induction ps with
  | nil => cases h
  | cons p ps ih =>
    obtain ⟨k', v'⟩ := p
    rw [List.map_cons, List.nodup_cons] at hn
    rw [List.lookup_cons]
    rcases List.mem_cons.1 h with h | h
    · cases h; simp
    · have e : k ≠ k' := fun e => hn.1 (by rw [← e]; exact List.mem_map.2 ⟨_, h, rfl⟩)
      rw [show (k == k') = false by simpa using e]
      exact ih hn.2 h
theorem lookup_aput {ps : List (Str × β)} {k : Str} {v : β} (j : Str) : (aput ps k v).lookup j = if j = k then some v else ps.lookup j := by
  induction ps with
  | nil =>
    show List.lookup j [(k, v)] = _
    rw [List.lookup_cons]
    by_cases e : j = k
    · simp [e]
    · rw [show (j == k) = false by simpa using e, if_neg e]
  | cons p ps ih =>
    obtain ⟨k', v'⟩ := p
    unfold aput
    by_cases c : k = k'
    · rw [if_pos c]
      subst c
      rw [List.lookup_cons, List.lookup_cons]
      by_cases e : j = k
      · simp [e]
      · rw [show (j == k) = false by simpa using e, if_neg e]
    · rw [if_neg c, List.lookup_cons, List.lookup_cons, ih]
      by_cases e : j = k'
      · subst e
        simp
        intro h; exact absurd h.symm c
      · rw [show (j == k') = false by simpa using e]
theorem aput_new {ps : List (Str × β)} {k : Str} {v : β} (h : ps.lookup k = none) : aput ps k v = ps ++ [(k, v)] := by
  induction ps with
  | nil => rfl
  | cons p ps ih =>
    obtain ⟨k', v'⟩ := p
    rw [List.lookup_cons] at h
    by_cases e : k = k'
    · subst e; simp at h
    · rw [show (k == k') = false by simpa using e] at h
      unfold aput
      rw [if_neg e, ih h]; rfl
theorem aput_keys {ps : List (Str × β)} {k : Str} {v x : β} (h : ps.lookup k = some x) : (aput ps k v).map (·.1) = ps.map (·.1) := by
  induction ps with
  | nil => cases h
  | cons p ps ih =>
    obtain ⟨k', v'⟩ := p
    rw [List.lookup_cons] at h
    unfold aput
    by_cases e : k = k'
    · subst e; simp
    · rw [show (k == k') = false by simpa using e] at h
      rw [if_neg e, List.map_cons, List.map_cons, ih h]
theorem aput_nodup {ps : List (Str × β)} {k : Str} {v : β} (hn : (ps.map (·.1)).Nodup) : ((aput ps k v).map (·.1)).Nodup := by
  cases h : ps.lookup k with
  | some x => rw [aput_keys h]; exact hn
  | none =>
    rw [aput_new h, List.map_append, List.nodup_append]
    refine ⟨hn, by simp, ?_⟩
    intro x hx y hy e
    simp at hy
    exact lookup_key.1 h (by rw [← hy, ← e]; exact hx)
theorem mem_aput {ps : List (Str × β)} {k : Str} {v : β} (hn : (ps.map (·.1)).Nodup) {p : Str × β} (h : p ∈ aput ps k v) : p = (k, v) ∨ (p ∈ ps ∧ p.1 ≠ k) := by
  have h1 := lookup_mem (aput_nodup hn) (k := p.1) (x := p.2) h
  rw [lookup_aput] at h1
  split at h1
  · rename_i e; left; cases h1; exact Prod.ext e rfl
  · rename_i e; exact .inr ⟨mem_lookup h1, e⟩
theorem adel_sub (ps : List (Str × β)) (k : Str) : (adel ps k).Sublist ps := by
  induction ps with
  | nil => exact List.Sublist.refl _
  | cons p ps ih =>
    obtain ⟨k', v'⟩ := p
    unfold adel
    split
    · exact List.sublist_cons_self ..
    · exact ih.cons_cons _
theorem adel_nodup {ps : List (Str × β)} {k : Str} (hn : (ps.map (·.1)).Nodup) : ((adel ps k).map (·.1)).Nodup := List.Nodup.sublist ((adel_sub ps k).map _) hn
theorem adel_no {ps : List (Str × β)} {k : Str} (h : ps.lookup k = none) : adel ps k = ps := by
  induction ps with
  | nil => rfl
  | cons p ps ih =>
    obtain ⟨k', v'⟩ := p
    rw [List.lookup_cons] at h
    by_cases e : k = k'
    · subst e; simp at h
    · rw [show (k == k') = false by simpa using e] at h
      unfold adel
      rw [if_neg e, ih h]
theorem lookup_adel {ps : List (Str × β)} {k : Str} (hn : (ps.map (·.1)).Nodup) (j : Str) : (adel ps k).lookup j = if j = k then none else ps.lookup j := by
  induction ps with
  | nil => show none = _; split <;> rfl
  | cons p ps ih =>
    obtain ⟨k', v'⟩ := p
    rw [List.map_cons, List.nodup_cons] at hn
    unfold adel
    by_cases c : k = k'
    · rw [if_pos c]
      subst c
      by_cases e : j = k
      · subst e; rw [if_pos rfl]; exact lookup_key.2 hn.1
      · rw [if_neg e, List.lookup_cons, show (j == k) = false by simpa using e]
    · rw [if_neg c, List.lookup_cons, List.lookup_cons, ih hn.2]
      by_cases e : j = k'
      · subst e
        simp
        intro h; exact absurd h.symm c
      · rw [show (j == k') = false by simpa using e]
theorem mem_adel {ps : List (Str × β)} {k : Str} (hn : (ps.map (·.1)).Nodup) {p : Str × β} (h : p ∈ adel ps k) : p ∈ ps ∧ p.1 ≠ k := by
  have h1 := lookup_mem (adel_nodup hn) (k := p.1) (x := p.2) h
  rw [lookup_adel hn] at h1
  split at h1
  · cases h1
  · rename_i e; exact ⟨mem_lookup h1, e⟩
end

/-- a file: its bytes, how many of them are safe -/
structure Fl where
  b : Str
  safe : Nat
abbrev Fs := List (Str × Fl)
abbrev Ps := List (Str × Nat × Fl)
abbrev vI (x : Int) : Value := .int .i64 x
abbrev vU (c : UInt8) : Value := .int .u8 c.toNat
abbrev ptr (b : Nat) : Value := .pointer (some ⟨b, 0, none⟩)
def kvp (p : Str × Nat × Fl) : Str × Value := (p.1, ptr p.2.1)
def pfs (ps : Ps) : Fs := ps.map fun p => (p.1, p.2.2)
theorem kvp_put (ps : Ps) (k : Str) (b : Nat) (f : Fl) : mput (ps.map kvp) k (ptr b) = (aput ps k (b, f)).map kvp := by
  induction ps with
  | nil => rfl
  | cons p ps ih =>
    obtain ⟨k', b', f'⟩ := p
    rw [List.map_cons]
    unfold kvp mput aput
    split
    · rfl
    · rw [List.map_cons]; congr 1
theorem kvp_del (ps : Ps) (k : Str) : mdel (ps.map kvp) k = (adel ps k).map kvp := by
  induction ps with
  | nil => rfl
  | cons p ps ih =>
    obtain ⟨k', b', f'⟩ := p
    rw [List.map_cons]
    unfold kvp mdel adel
    split
    · rfl
    · rw [List.map_cons]; congr 1
theorem kvp_same {ps : Ps} {k : Str} {b : Nat} {f f' : Fl} (h : ps.lookup k = some (b, f)) : (aput ps k (b, f')).map kvp = ps.map kvp := by
  induction ps with
  | nil => cases h
  | cons p ps ih =>
    obtain ⟨k', b', g⟩ := p
    rw [List.lookup_cons] at h
    unfold aput
    by_cases e : k = k'
    · subst e; simp at h; obtain ⟨rfl, rfl⟩ := h; rw [if_pos rfl]; rfl
    · rw [show (k == k') = false by simpa using e] at h
      rw [if_neg e, List.map_cons, List.map_cons, ih h]
theorem kvp_lookup (ps : Ps) (k : Str) : (ps.map kvp).lookup k = (ps.lookup k).map fun x => ptr x.1 := by
  induction ps with
  | nil => rfl
  | cons p ps ih =>
    obtain ⟨k', b', g⟩ := p
    rw [List.map_cons]
    unfold kvp
    rw [List.lookup_cons, List.lookup_cons]
    by_cases e : k = k'
    · subst e; simp
    · rw [show (k == k') = false by simpa using e]; exact ih
theorem pfs_put (ps : Ps) (k : Str) (b : Nat) (f : Fl) : pfs (aput ps k (b, f)) = aput (pfs ps) k f := by
  induction ps with
  | nil => rfl
  | cons p ps ih =>
    obtain ⟨k', b', f'⟩ := p
    unfold pfs at ih ⊢
    rw [List.map_cons]
    unfold aput
    split
    · rfl
    · rw [List.map_cons]; congr 1
theorem pfs_del (ps : Ps) (k : Str) : pfs (adel ps k) = adel (pfs ps) k := by
  induction ps with
  | nil => rfl
  | cons p ps ih =>
    obtain ⟨k', b', f'⟩ := p
    unfold pfs at ih ⊢
    rw [List.map_cons]
    unfold adel
    split
    · rfl
    · rw [List.map_cons]; congr 1
theorem pfs_lookup (ps : Ps) (k : Str) : (pfs ps).lookup k = (ps.lookup k).map (·.2) := by
  induction ps with
  | nil => rfl
  | cons p ps ih =>
    obtain ⟨k', b', g⟩ := p
    unfold pfs at ih ⊢
    rw [List.map_cons, List.lookup_cons, List.lookup_cons]
    by_cases e : k = k'
    · subst e; simp
    · rw [show (k == k') = false by simpa using e]; exact ih
theorem pfs_keys (ps : Ps) : (pfs ps).map (·.1) = ps.map (·.1) := by unfold pfs; rw [List.map_map]; rfl

/-- a row that may have less room than its block -/
def RowC (tag : Nat → Nat) (σ : AH) (r : Nat) (e : TypeId) (s : Sl) (l : List Value) : Prop := ∃ c, Row tag σ r e ⟨s.a, s.len, c⟩ l ∧ s.len ≤ s.cap ∧ s.cap ≤ c
theorem _root_.Go.Proofs.YtfobjidchipdaaaGreatDoor.SL.Row.c {r : Nat} {e : TypeId} {s : Sl} {l : List Value} (h : Row tag σ r e s l) : RowC tag σ r e s l := ⟨s.cap, h, by have := SL.Row.capAt h; rw [SL.Row.len h]; exact this, Nat.le_refl _⟩
theorem RowC.len {r : Nat} {e : TypeId} {s : Sl} {l : List Value} (h : RowC tag σ r e s l) : s.len = l.length := by obtain ⟨c, h, _⟩ := h; exact h.len
theorem RowC.keep {R : List Nat} {r : Nat} {e : TypeId} {s : Sl} {l : List Value} (h : RowC tag σ r e s l) (k : Step R ro tag σ tag' σ') (hr : r ∉ R) : RowC tag' σ' r e s l := by
  obtain ⟨c, h, x⟩ := h; exact ⟨c, h.keep k hr, x⟩
theorem RowC.read {r : Nat} {e : TypeId} {s : Sl} {l : List Value} (h : RowC tag σ r e s l) (hs : Sep ro σ) : SL.Read ro σ s l := by
  obtain ⟨c, h, _⟩ := h; exact h.read hs
theorem awp_appendC {r : Nat} {e t : TypeId} {s s2 : Sl} {l l2 : List Value} {zv : Value} {bytes : Nat} {ty : TypeId} {Q : Value → AH → Prop} (h : RowC tag σ r e s l) (hs : Sep ro σ) (h2 : SL.Read ro σ s2 l2)
    (ht : P.underlying t = some (.slice e)) (hz : TyIs P e zv 1 bytes) (hzc : zv.cells = #[zv]) (hv : ∀ v ∈ l2, storable v = true) (hb : (l.length + l2.length) * bytes ≤ 140737488355328) (hb0 : 0 < bytes)
    (hK : ∀ s' tag' σ', (∀ R, s.len = s.cap ∨ r ∈ R → Step R ro tag σ tag' σ') → RowC tag' σ' r e s' (l ++ l2) → Q (Sl.v s') σ') :
    awp P ro (Builtin.append_ #[t, t] ty #[Sl.v s, Sl.v s2]) Q σ := by
  obtain ⟨i, hi, hiz, his, hib⟩ := hz
  have hz : TyIs P e zv 1 bytes := ⟨i, hi, hiz, his, hib⟩
  have g0 : (#[t, t] : Array TypeId)[0]? = some t := rfl
  have g1 : (#[t, t] : Array TypeId)[1]? = some t := rfl
  have g2 : (#[Value.slice s.a s.len s.cap, Value.slice s2.a s2.len s2.cap] : Array Value)[0]? = some (Value.slice s.a s.len s.cap) := rfl
  have g3 : (#[Value.slice s.a s.len s.cap, Value.slice s2.a s2.len s2.cap] : Array Value)[1]? = some (Value.slice s2.a s2.len s2.cap) := rfl
  have hln := h2.1
  have hld : ∀ {β : Type} (f : Array Value → Sem β) (Q : β → AH → Prop), awp P ro (f l2.toArray) Q σ → awp P ro (Sem.bind (Builtin.firstCells 1 s2.len (.slice s2.a s2.len s2.cap)) f) Q σ := by
    intro β f Q hf
    cases hsa : s2.a with
    | none =>
      rw [h2.2.1 hsa] at hf
      exact hf
    | some p =>
      rw [show Sem.bind (Builtin.firstCells 1 s2.len (.slice (some p) s2.len s2.cap)) f = (loadCells p (s2.len * 1)) >>= f from rfl, awp_bind, Nat.mul_one, hln]
      exact awp_loadCells l2 0 #[] (cellsAt_of 0 fun j v hj => by rw [Nat.zero_add]; exact h2.2.2 p hsa j v hj) (by simpa using hf)
  unfold Builtin.append_
  simp only [Sl.v, bind_def, pure_def, g0, g1, g2, g3]
  rw [awp_underlying ht]
  simp only []
  rw [awp_size hz]
  rw [awp_underlying ht]
  simp only [bind_pure', Builtin.lenOf, bind_def, pure_def, Bool.false_eq_true, if_false, Bool.not_false, if_true, false_or]
  split
  · rename_i hroom
    refine hld _ _ ?_
    have h' := h
    obtain ⟨cc, hR, hc1, hc2⟩ := h
    rcases hR with ⟨heq, rfl⟩ | ⟨b, cs, ha, htg, hbk, hln1, hcp, hle, hg⟩
    · obtain ⟨sa, sl, sc⟩ := s
      simp only [Sl.mk.injEq] at heq
      obtain ⟨rfl, rfl, rfl⟩ := heq
      simp only at hroom hc1 hc2
      have hsc : sc = 0 := by omega
      subst hsc
      have h0 : l2 = [] := List.eq_nil_of_length_eq_zero (by omega)
      subst h0
      have hs2 : s2.len = 0 := hln
      show Q (.slice none (0 + s2.len) 0) σ
      rw [hs2]
      exact hK ⟨none, 0, 0⟩ tag σ (fun _ _ => Step.refl hs) ⟨0, .inl ⟨rfl, rfl⟩, Nat.le_refl _, Nat.le_refl _⟩
    · simp only at ha hln1 hcp hle
      by_cases h0 : l2 = []
      · subst h0
        have hs2 : s2.len = 0 := hln
        simp only [ha]
        show Q (Value.slice (some ⟨b, 0, none⟩) (s.len + s2.len) s.cap) σ
        rw [hs2, Nat.add_zero]
        have := hK s tag σ (fun _ _ => Step.refl hs) (by rw [List.append_nil]; exact h')
        unfold Sl.v at this
        rw [ha] at this; exact this
      have hpos := List.length_pos_iff.2 h0
      simp only [ha]
      show awp P ro (storeCells (Addr.add ⟨b, 0, none⟩ (s.len * 1)) l2 >>= fun _ => Sem.pure (Value.slice (some ⟨b, 0, none⟩) (s.len + s2.len) s.cap)) Q σ
      rw [awp_bind, add_add, Nat.mul_one, Nat.zero_add]
      refine awp_storeCells l2 0 σ (stN_blk l2 cs 0 σ hbk (by omega) hv fun cs' c1 c2 c3 => ?_)
      show Q (Value.slice (some ⟨b, 0, none⟩) (s.len + s2.len) s.cap) _
      refine hK ⟨some ⟨b, 0, none⟩, s.len + s2.len, s.cap⟩ tag _ (fun R hR => (step_obj hs htg hbk).mono fun x hx => by rw [List.mem_singleton] at hx; rw [hx]; exact hR.resolve_left (by omega)) ⟨cc, .inr ⟨b, cs', rfl, htg, upd_same _ _ _, by simp [hln1, hln], by rw [c1]; exact hcp, by simp only; omega, fun i hi => ?_⟩, hroom, hc2⟩
      simp at hi
      rcases Nat.lt_or_ge i l.length with hh | hh
      · rw [c2 i (by omega), List.getElem?_append_left hh]; exact hg i hh
      · rw [List.getElem?_append_right hh]
        have := c3 (i - l.length) _ (List.getElem?_eq_getElem (by omega))
        rw [List.getElem?_eq_getElem (by omega), ← this]
        congr 1; omega
  · rename_i hroom
    rw [awp_typeInfo hi]
    rw [if_neg (by rw [hib]; omega)]
    rw [awp_typeInfo hi]
    have hl := h.len
    rw [if_neg (by rw [hib]; have := growslice_fits (need := s.len + s2.len) (old := s.cap) (bytes := bytes) (by omega) (by rw [hl, hln]; exact hb); omega)]
    refine awp_choose rfl (fun n => ?_)
    rw [awp_typeInfo hi]
    refine awp_askRoom ?_
    have hcut : s.len + s2.len ≤ (Question.appendCap (s.len + s2.len) s.cap e).cut n := by simp only [Question.cut]; omega
    generalize (Question.appendCap (s.len + s2.len) s.cap e).cut n = N at hcut
    obtain ⟨cc, hR, hc1, hc2⟩ := h
    refine Eq.mpr (congrArg (fun x => awp P ro (Sem.bind x _) Q σ) (show Builtin.firstCells 1 s.len (.slice s.a s.len s.cap) = Builtin.firstCells 1 s.len (.slice s.a s.len cc) from by cases s.a <;> rfl)) ?_
    refine awp_first hR hs ?_
    refine hld _ _ ?_
    rw [awp_zero hz]
    rw [hzc]
    show ∀ b, ro b = none → σ b = none → Q (Value.slice (some ⟨b, 0, none⟩) (s.len + s2.len) N) (upd σ b _)
    intro b hro hb
    refine hK ⟨some ⟨b, 0, none⟩, s.len + s2.len, N⟩ (setTag tag b r) _ (fun _ _ => Step.fresh hs hro hb) ⟨N, .inr ⟨b, _, rfl, by simp [setTag], upd_same _ _ _, by simp [hl, hln], ?_, hcut, fun i hi => ?_⟩, hcut, Nat.le_refl _⟩
    · simp [Builtin.zeroCells]; omega
    · simp at hi
      rw [Array.getElem?_append_left (by simp; omega)]
      simp

/-- a file in memory: its block and its bytes -/
def FileAt (tf : TypeId) (tag : Nat → Nat) (σ : AH) (r b : Nat) (f : Fl) : Prop :=
  ∃ s : Sl, Row tag σ (r + 64 * (2 * b + 2)) tf ⟨some ⟨b, 0, none⟩, 2, 2⟩ [Sl.v s, vI f.safe] ∧ RowC tag σ (r + 64 * (2 * b + 3)) 5 s (f.b.map vU)
theorem FileAt.keep {tf : TypeId} {R : List Nat} {r b : Nat} {f : Fl} (h : FileAt tf tag σ r b f) (k : Step R ro tag σ tag' σ') (h1 : r + 64 * (2 * b + 2) ∉ R) (h2 : r + 64 * (2 * b + 3) ∉ R) : FileAt tf tag' σ' r b f := by
  obtain ⟨s, a, c⟩ := h
  exact ⟨s, a.keep k h1, c.keep k h2⟩
/-- a disk in memory -/
structure DiskAt (td tf : TypeId) (tag : Nat → Nat) (σ : AH) (r T M : Nat) (cap : Int) (ps : Ps) : Prop where
  keys : (ps.map (·.1)).Nodup
  nd : (ps.map (·.2.1)).Nodup
  cell : Row tag σ r td ⟨some ⟨T, 0, none⟩, 2, 2⟩ [.map (some M), vI cap]
  map : MapIs tag σ (r + 64) M (ps.map kvp)
  nodes : ∀ p ∈ ps, FileAt tf tag σ r p.2.1 p.2.2
theorem DiskAt.keep {td tf : TypeId} {R : List Nat} {r T M : Nat} {cap : Int} {ps : Ps} (h : DiskAt td tf tag σ r T M cap ps) (k : Step R ro tag σ tag' σ') (hR : ∀ x ∈ R, x % 64 ≠ r % 64) : DiskAt td tf tag' σ' r T M cap ps :=
  ⟨h.keys, h.nd, h.cell.keep k fun m => hR _ m rfl, h.map.keep k fun m => hR _ m (by omega), fun p hp => (h.nodes p hp).keep k (fun m => hR _ m (by omega)) fun m => hR _ m (by omega)⟩
theorem inj_of {α γ : Type} {f : α → γ} : ∀ {l : List α}, (l.map f).Nodup → ∀ {x y : α}, x ∈ l → y ∈ l → f x = f y → x = y := by
  intro l
  induction l with
  | nil => intro _ x y h; cases h
  | cons a l ih =>
    intro hn x y hx hy e
    rw [List.map_cons, List.nodup_cons] at hn
    rcases List.mem_cons.1 hx with e1 | hx'
    · rcases List.mem_cons.1 hy with e2 | hy'
      · rw [e1, e2]
      · exact absurd (by rw [← e1, e]; exact List.mem_map.2 ⟨y, hy', rfl⟩) hn.1
    · rcases List.mem_cons.1 hy with e2 | hy'
      · exact absurd (by rw [← e2, ← e]; exact List.mem_map.2 ⟨x, hx', rfl⟩) hn.1
      · exact ih hn.2 hx' hy' e
/-- a file changes where it stands -/
theorem DiskAt.write {td tf : TypeId} {R : List Nat} {r T M b : Nat} {cap : Int} {ps : Ps} {k : Str} {f f' : Fl} (h : DiskAt td tf tag σ r T M cap ps) (hk : ps.lookup k = some (b, f)) (st : Step R ro tag σ tag' σ')
    (hR : ∀ x ∈ R, x = r + 64 * (2 * b + 2) ∨ x = r + 64 * (2 * b + 3)) (hf : FileAt tf tag' σ' r b f') : DiskAt td tf tag' σ' r T M cap (aput ps k (b, f')) := by
  have hm := mem_lookup hk
  refine ⟨aput_nodup h.keys, ?_, h.cell.keep st fun m => ?_, ?_, fun p hp => ?_⟩
  · have e : (aput ps k (b, f')).map (·.2.1) = ps.map (·.2.1) := by
      clear h hm
      induction ps with
      | nil => cases hk
      | cons p ps ih =>
        obtain ⟨k', b', g⟩ := p
        rw [List.lookup_cons] at hk
        unfold aput
        by_cases e : k = k'
        · subst e; simp at hk; obtain ⟨rfl, rfl⟩ := hk; rw [if_pos rfl]; rfl
        · rw [show (k == k') = false by simpa using e] at hk
          rw [if_neg e, List.map_cons, List.map_cons, ih hk]
    rw [e]; exact h.nd
  · have := hR _ m; omega
  · rw [kvp_same hk]; exact h.map.keep st fun m => by have := hR _ m; omega
  · rcases mem_aput h.keys hp with rfl | ⟨hp, hne⟩
    · exact hf
    · have hb : p.2.1 ≠ b := fun e => hne (by have := inj_of h.nd hp hm e; rw [this])
      exact (h.nodes p hp).keep st (fun m => by have := hR _ m; omega) fun m => by have := hR _ m; omega
theorem nodup_put {ps : Ps} {k : Str} {b : Nat} {f : Fl} : (ps.map (·.2.1)).Nodup → (∀ p ∈ ps, p.2.1 ≠ b) → ((aput ps k (b, f)).map (·.2.1)).Nodup := by
  induction ps with
  | nil => intro _ _; simp [aput]
  | cons p ps ih =>
    intro hn hb
    obtain ⟨k', b', g⟩ := p
    rw [List.map_cons, List.nodup_cons] at hn
    unfold aput
    split
    · rw [List.map_cons, List.nodup_cons]
      refine ⟨fun hm => ?_, hn.2⟩
      obtain ⟨p, hp, e⟩ := List.mem_map.1 hm
      exact hb p (by simp [hp]) e
    · rw [List.map_cons, List.nodup_cons]
      refine ⟨fun hm => ?_, ih hn.2 fun p hp => hb p (by simp [hp])⟩
      have sub : ∀ (l : Ps) x, x ∈ (aput l k (b, f)).map (·.2.1) → x = b ∨ x ∈ l.map (·.2.1) := by
        intro l
        induction l with
        | nil => intro x hx; simp [aput] at hx; exact .inl hx
        | cons q l ih =>
          intro x hx
          obtain ⟨k2, b2, g2⟩ := q
          unfold aput at hx
          split at hx
          · simp only [List.map_cons, List.mem_cons] at hx ⊢
            rcases hx with h | h
            · exact .inl h
            · exact .inr (.inr h)
          · simp only [List.map_cons, List.mem_cons] at hx ⊢
            rcases hx with h | h
            · exact .inr (.inl h)
            · rcases ih x h with h | h
              · exact .inl h
              · exact .inr (.inr h)
      rcases sub ps _ hm with h | h
      · exact hb (k', b', g) (by simp) h
      · exact hn.1 h
/-- a file under a name -/
theorem DiskAt.put {td tf : TypeId} {R : List Nat} {r T M b : Nat} {cap : Int} {ps : Ps} {k : Str} {f : Fl} (h : DiskAt td tf tag σ r T M cap ps) (hnb : ∀ p ∈ ps, p.2.1 ≠ b) (st : Step R ro tag σ tag' σ')
    (hR : ∀ x ∈ R, x = r + 64 ∨ x = r + 64 * (2 * b + 2) ∨ x = r + 64 * (2 * b + 3)) (hf : FileAt tf tag' σ' r b f) (hm : MapIs tag' σ' (r + 64) M (mput (ps.map kvp) k (ptr b))) : DiskAt td tf tag' σ' r T M cap (aput ps k (b, f)) := by
  refine ⟨aput_nodup h.keys, nodup_put h.nd hnb, h.cell.keep st fun m => ?_, ?_, fun p hp => ?_⟩
  · have := hR _ m; omega
  · rw [kvp_put ps k b f] at hm; exact hm
  · rcases mem_aput h.keys hp with rfl | ⟨hp, hne⟩
    · exact hf
    · have hb := hnb p hp
      exact (h.nodes p hp).keep st (fun m => by have := hR _ m; omega) fun m => by have := hR _ m; omega
theorem DiskAt.free {td tf : TypeId} {r T M b : Nat} {cap : Int} {ps : Ps} (h : DiskAt td tf tag σ r T M cap ps) (hb : σ b = none) : ∀ p ∈ ps, p.2.1 ≠ b := fun p hp e => by
  obtain ⟨s, hr, _⟩ := h.nodes p hp
  obtain ⟨_, o, ho⟩ := hr.tagOf
  rw [e, hb] at ho; cases ho
/-- a file goes -/
theorem DiskAt.rem {td tf : TypeId} {R : List Nat} {r T M : Nat} {cap : Int} {ps : Ps} {k : Str} (h : DiskAt td tf tag σ r T M cap ps) (st : Step R ro tag σ tag' σ') (hR : ∀ x ∈ R, x = r + 64)
    (hm : MapIs tag' σ' (r + 64) M (mdel (ps.map kvp) k)) : DiskAt td tf tag' σ' r T M cap (adel ps k) := by
  refine ⟨adel_nodup h.keys, List.Nodup.sublist ((adel_sub ps k).map _) h.nd, h.cell.keep st fun m => ?_, ?_, fun p hp => ?_⟩
  · have := hR _ m; omega
  · rw [kvp_del] at hm; exact hm
  · exact (h.nodes p ((adel_sub ps k).subset hp)).keep st (fun m => by have := hR _ m; omega) fun m => by have := hR _ m; omega
end Go.Proofs.YtfobjidchipdaaaGreatDoor.Dk
