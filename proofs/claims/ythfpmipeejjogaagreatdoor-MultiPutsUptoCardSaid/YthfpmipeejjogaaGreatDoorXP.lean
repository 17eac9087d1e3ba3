/- PuF, PuG, ZtR, MuR, MuQ, PuH -/
import Derived.Test.YthfpmipeejjogaaGreatDoorXO
/- Ops off bytes: the document's Get; the document's SameOps. -/
namespace Go.Proofs.YthfpmipeejjogaaGreatDoor.Zt
open Go Go.Proofs.YthfpmipeejjogaaGreatDoor.SL Go.Proofs.YthfpmipeejjogaaGreatDoor.G Go.Proofs.YthfpmipeejjogaaGreatDoor.Pa Go.Proofs.YthfpmipeejjogaaGreatDoor.Wi
set_option linter.unusedSimpArgs false
set_option linter.unusedVariables false
set_option maxRecDepth 100000
variable {B : World} {ro σ σ' : AH} {tag tag' : Nat → Nat}

theorem tmod1 {f : Nat} : decide (Int.tmod (f : Int) 2 = 1) = decide (f % 2 = 1) := by
  have : Int.tmod (f : Int) 2 = ((f % 2 : Nat) : Int) := by rw [Int.tmod_eq_emod_of_nonneg (by omega)]; omega
  rw [this]
  by_cases h : f % 2 = 1
  · rw [decide_eq_true h, decide_eq_true (by omega)]
  · rw [decide_eq_false h, decide_eq_false (by omega)]
theorem gt1 {f : Nat} : decide ((1 : Int) < (f : Int)) = decide (1 < f) := by
  by_cases h : 1 < f
  · rw [decide_eq_true h, decide_eq_true (by omega)]
  · rw [decide_eq_false h, decide_eq_false (by omega)]
theorem ROpsAt.push {q : Nat} {s s' d : Sl} {ops : List MOp} {o : MOp} {dd : List Sl} {tag7 : Nat → Nat} {σ7 : AH} (d1 : dd.length = ops.length) (d3 : ∀ (i : Nat) (o : MOp) (d : Sl), ops[i]? = some o → dd[i]? = some d → Dat ro tag7 σ7 d o.data) (r7 : RowW tag7 σ7 q 179 6 s' (List.zipWith opV ops dd ++ [opV o d])) (hd : Dat ro tag7 σ7 d o.data) : ROpsAt ro tag7 σ7 q s' (ops ++ [o]) := by
  refine ⟨dd ++ [d], by simp [d1], by rw [List.zipWith_append d1.symm]; exact r7, fun i o' d' ho hd' => ?_⟩
  rcases Nat.lt_or_ge i ops.length with h | h
  · rw [List.getElem?_append_left h] at ho
    rw [List.getElem?_append_left (by omega)] at hd'
    exact d3 i o' d' ho hd'
  · rw [List.getElem?_append_right h] at ho
    rw [List.getElem?_append_right (by omega), d1] at hd'
    cases hz : i - ops.length with
    | zero => rw [hz] at ho hd'; cases ho; cases hd'; exact hd
    | succ k => rw [hz] at ho; cases ho
theorem rget8_ok {a0 : Sl} {b : Str} {q : Nat} {Q : Sl → Bool → AH → Prop} (hq : q < 64) (hq0 : q ≠ 0) (hq6 : q ≠ 6) (hq35 : q ≠ 35) (hr : SL.Read ro (fun _ => none) a0 (b.map vU)) (hc : a0.len ≤ a0.cap) (hl : b.length ≤ 140737488355328)
    (hno : getE b = none → ∀ s tag' σ', StepS [0, 35, q] ro tag σ tag' σ' → Q s false σ')
    (hyes : ∀ l, getE b = some l → ∀ s tag' σ', StepS [0, 35, q] ro tag σ tag' σ' → ROpsAt ro tag' σ' q s l → Q s true σ') : c_ref08_Get B ro a0 σ Q := by
  refine ref08_Get_ok fun hs => ?_
  unfold f_ref08_Get
  have hqm : q % 64 = q := Nat.mod_eq_of_lt hq
  refine nw_cells (tag := tag) 35 hs fun A tag1 σ1 st1 r1 => ?_
  have rd1 : RdIs tag1 σ1 35 A a0 b ⟨b, 0⟩ := ⟨0, Nat.zero_le _, rfl, r1⟩
  refine rdnum_ok rd1 hr hl fun σ2 st2 rd2 => ?_
  have hge : getE b = if (rnum ⟨b, 0⟩).2.err ≠ 0 ∨ 16 < (rnum ⟨b, 0⟩).1 then none else match getL (rnum ⟨b, 0⟩).1 (rnum ⟨b, 0⟩).2 with | none => none | some (l, r) => if r.rest = [] then some l else none := rfl
  obtain ⟨H, hH⟩ : ∃ H, rnum ⟨b, 0⟩ = H := ⟨_, rfl⟩
  rw [hH] at hge rd2
  rw [hH]
  have s2 : StepS [0, 35, q] ro tag σ tag1 σ2 := ((st1 []).s (by simp)).trans (st2.s (by simp))
  refine ⟨_, rd2.err st2.sep, ?_⟩
  by_cases c : H.2.err ≠ 0 ∨ 16 < H.1
  · rw [if_pos (by
      rcases c with c | c
      · exact .inl c
      · exact .inr (by omega))]
    exact hno (by rw [hge, if_pos c]) _ tag1 σ2 s2
  rw [if_neg (by
    rintro (h | h)
    · exact c (.inl h)
    · exact c (.inr (by omega)))]
  rw [if_neg c] at hge
  simp only [not_or, Classical.not_not] at c
  suffices ∀ m i out (l : List MOp) (x : Rd) tag4 σ4, i + m = H.1 → l.length = i → x.err = 0 → (getL m x = none → getL H.1 H.2 = none) → (∀ l' r', getL m x = some (l', r') → getL H.1 H.2 = some (l ++ l', r')) →
      StepS [0, 35, q] ro tag σ tag4 σ4 → ROpsAt ro tag4 σ4 q out l → RdIs tag4 σ4 35 A a0 b x → lfpD (l7_ref08_Get B ro A (H.1 : Int) Q) (out, (i : Int)) σ4 from
    this H.1 0 ⟨none, 0, 0⟩ [] H.2 tag1 σ2 (Nat.zero_add _) rfl c.1 id (fun l' r' h => h) s2 ⟨[], rfl, RowW.nil _ _ _, fun i o d h => by cases h⟩ rd2
  intro m
  induction m with
  | zero =>
    intro i out l x tag4 σ4 hi hli e0 g1 g2 st4 o4 rd4
    refine lfpD.intro ?_
    unfold l7_ref08_Get
    simp only
    rw [if_neg (by omega)]
    unfold j4_ref08_Get
    have hL := g2 [] x rfl
    rw [List.append_nil] at hL
    refine rdleft_ok rd4 hr hl ?_
    have hge2 : getE b = if x.rest = [] then some l else none := by rw [hge, hL]
    by_cases hr : x.rest = []
    · rw [hr]
      exact hyes l (by rw [hge2, if_pos hr]) out tag4 σ4 st4 o4
    · have := List.length_pos_iff.2 hr
      rw [show decide (((x.rest.length : Nat) : Int) = 0) = false by simp; exact hr]
      exact hno (by rw [hge2, if_neg hr]) _ tag4 σ4 st4
  | succ m ih =>
    intro i out l x tag4 σ4 hi hli e0 g1 g2 st4 o4 rd4
    have hgl : getL (m + 1) x = if badOp (rop x) then none else match getL m (rop x).2 with | none => none | some (l, r') => some ((rop x).1.1 :: l, r') := rfl
    have hnone : getL (m + 1) x = none → getE b = none := fun hn => by rw [hge, g1 hn]
    refine lfpD.intro ?_
    unfold l7_ref08_Get
    simp only
    rw [if_pos (by omega)]
    refine rdnum_ok rd4 hr hl fun σ5 st5 rd5 => ?_
    refine nw_st (tag := tag4) 0 st5.sep rfl (by simp [storable, Sl.v]) fun X tag6 σ6 st6 r6 => ?_
    refine rdblob_ok (by decide) (rd5.keep (st6 []) (by simp)) hr hc hl fun d1 tag7 σ7 st7 rd7 k7 => ?_
    refine awp_b2s (k7.read st7.sep) ?_
    refine ⟨_, rfl, ?_⟩
    refine (r6.keep st7 (by decide)).st (i := 1) st7.sep rfl (by simp) rfl fun σ8 st8 r8 => ?_
    refine rdblob_ok (by decide) (rd7.keep st8 (by decide)) hr hc hl fun dsl tag9 σ9 st9 rd9 k9 => ?_
    refine (r8.keep st9 (by decide)).st (i := 2) st9.sep rfl (by simp) rfl fun σa sta ra => ?_
    refine rdnum_ok (rd9.keep sta (by decide)) hr hl fun σb stb rdb => ?_
    have ev : IntKind.i64.wrap (((rnum (rblob (rblob (rnum x).2).2).2).1 : Nat) - 1 : Int) = ((rnum (rblob (rblob (rnum x).2).2).2).1 : Int) - 1 := by
      have := rnum_lt (rblob (rblob (rnum x).2).2).2
      rw [SL.w64_eq (by omega) (by omega)]
    rw [ev]
    refine (ra.keep stb (by decide)).st (i := 3) stb.sep rfl (by simp) rfl fun σc stc rc => ?_
    refine rdnum_ok (rdb.keep stc (by decide)) hr hl fun σd std rdd => ?_
    have rd := rc.keep std (by decide)
    have kd := (((k9.keep sta (by decide)).keep stb (by decide)).keep stc (by decide)).keep std (by decide)
    have s4d : StepS [0, 35] ro tag4 σ4 tag9 σd := (st5.s (by decide)).trans (((st6 []).s (by simp)).trans ((st7.s (by decide)).trans ((st8.s (by decide)).trans ((st9.s (by decide)).trans ((sta.s (by decide)).trans ((stb.s (by decide)).trans ((stc.s (by decide)).trans (std.s (by decide)))))))))
    have od := o4.keepS s4d (by rw [hqm]; simp; omega) (by decide)
    have hsd := s4d.sep
    have stD : StepS [0, 35, q] ro tag σ tag9 σd := st4.trans (s4d.mono (by simp))
    have rd : Row tag9 σd 0 179 ⟨some ⟨X, 0, none⟩, 6, 6⟩ [.int .i64 (rop x).1.1.kind, Pa.vS (rop x).1.1.path, Sl.v dsl, .int .i64 (rop x).1.1.ver, .bool false, .bool false] := rd
    have rdd : RdIs tag9 σd 35 A a0 b (rop x).2 := rdd
    have kd : Row tag9 σd 6 5 dsl ((rop x).1.1.data.map vU) := kd
    have hfe : (((rnum (rnum (rblob (rblob (rnum x).2).2).2).2).1 : Nat) : Int) = ((rop x).1.2 : Int) := rfl
    have heph : (rop x).1.1.eph = decide ((rop x).1.2 % 2 = 1) := rfl
    have hseq : (rop x).1.1.seq = decide (1 < (rop x).1.2) := rfl
    rw [hfe]
    refine ⟨_, rdd.err hsd, ?_⟩
    obtain ⟨Y, hY⟩ : ∃ Y, rop x = Y := ⟨_, rfl⟩
    rw [hY] at hgl rd rdd kd heph hseq
    rw [hY]
    obtain ⟨p, hp, hg⟩ := rd.ptr hsd (by simp)
    cases hp
    have bad : badOp Y → ∀ s, Q s false σd := fun hb s => hno (hnone (by rw [hgl, if_pos hb])) s tag9 σd stD
    have b20 : badOp Y → j20_ref08_Get B ro out (i : Int) X A (H.1 : Int) (Y.1.2 : Int) Q (lfpD (l7_ref08_Get B ro A (H.1 : Int) Q)) true σd := fun hb => by
      unfold j20_ref08_Get; rw [if_pos (.inl rfl)]; exact bad hb _
    have b18 : badOp Y → j18_ref08_Get B ro out (i : Int) X A (H.1 : Int) (Y.1.2 : Int) Q (lfpD (l7_ref08_Get B ro A (H.1 : Int) Q)) true σd := fun hb => by
      unfold j18_ref08_Get; rw [if_pos rfl]; exact b20 hb
    by_cases c1 : Y.2.err ≠ 0
    · rw [if_pos c1]
      exact b18 (.inl c1)
    rw [if_neg c1]
    refine ⟨_, by have := hg 0 _ rfl; rwa [Nat.zero_mul, add_zero] at this, ?_⟩
    by_cases c2 : Y.1.1.kind < 1
    · rw [show decide (Y.1.1.kind < 1) = true by simpa using c2]
      exact b18 (.inr (.inl c2))
    rw [show decide (Y.1.1.kind < 1) = false by simpa using c2]
    unfold j18_ref08_Get
    rw [if_neg (by simp)]
    refine ⟨_, by have := hg 0 _ rfl; rwa [Nat.zero_mul, add_zero] at this, ?_⟩
    by_cases c3 : 4 < Y.1.1.kind
    · rw [show decide (4 < Y.1.1.kind) = true by simpa using c3]
      exact b20 (.inr (.inr (.inl c3)))
    rw [show decide (4 < Y.1.1.kind) = false by simpa using c3]
    unfold j20_ref08_Get
    by_cases c4 : 3 < Y.1.2
    · rw [if_pos (.inr (by omega))]
      exact bad (.inr (.inr (.inr c4))) _
    rw [if_neg (by rintro (h | h); cases h; omega)]
    have hnb : ¬ badOp Y := by
      unfold badOp
      rintro (h | h | h | h)
      · exact c1 h
      · exact c2 h
      · exact c3 h
      · exact c4 h
    rw [if_neg hnb] at hgl
    rw [tmod1, ← heph, gt1, ← hseq]
    refine rd.st (i := 4) hsd rfl (by simp) rfl fun σe ste re => ?_
    refine re.st (i := 5) ste.sep rfl (by simp) rfl fun σf stf rf => ?_
    have rf : Row tag9 σf 0 179 ⟨some ⟨X, 0, none⟩, 6, 6⟩ (opV Y.1.1 dsl) := rf
    refine ⟨_, _, _, _, _, _, Row.cellsAt rf stf.sep, ?_⟩
    refine nw_cells (tag := tag9) 0 stf.sep fun y tagg σg stg rg => ?_
    have sdg : StepS [0] ro tag9 σd tagg σg := (ste.s (by decide)).trans ((stf.s (by decide)).trans ((stg []).s (by simp)))
    obtain ⟨dd, d1, d2, d3⟩ := od.keepS sdg (by rw [hqm]; simp; omega) (by simp)
    have hlz : (List.zipWith opV l dd).length = i := by rw [List.length_zipWith, d1, Nat.min_self, hli]
    refine awp_appendW (l2 := [opV Y.1.1 dsl]) d2 (stg []).sep (Row.readW1 rg (stg []).sep rfl (by decide)) (t := 96) (by kernel_rfl) ty179 rfl (by simp [opV, storable, Sl.v]) (by rw [hlz]; simp; omega) (by decide) fun sn tagh σh sth rh => ?_
    have sth := sth [q] (.inr (by simp))
    have sh : StepS [q] ro tagg σg tagh σh := sth.s (by simp [hqm])
    refine ⟨sn, rfl, ?_⟩
    rw [Pa.inc i (by omega)]
    have h6q : (6 : Nat) ∉ [q] := by simp; omega
    have rdh : RdIs tagh σh 35 A a0 b Y.2 := (((rdd.keep ste (by decide)).keep stf (by decide)).keep (stg []) (by simp)).keep sth (by simp; omega)
    refine ih (i + 1) sn (l ++ [Y.1.1]) Y.2 tagh σh (by omega) (by simp [hli]) (Classical.not_not.1 c1) (fun hn => g1 (by rw [hgl, hn])) (fun l' r' hs' => ?_) (stD.trans ((sdg.mono (by simp)).trans (sh.mono (by simp)))) ?_ rdh
    · rw [List.append_assoc]
      exact g2 (Y.1.1 :: l') r' (by rw [hgl, hs'])
    · exact ROpsAt.push (s := out) d1 (fun i o d ho hd => (d3 i o d ho hd).keepS sh h6q) rh (.inr ((kd.keepS sdg (by simp)).keepS sh h6q))
theorem sameOps_ok {q1 q2 : Nat} {s1 s2 : Sl} {ops : List MOp} {Q : Bool → AH → Prop} (h1 : ROpsAt ro tag σ q1 s1 ops) (h2 : ROpsAt ro tag σ q2 s2 ops) (hq1 : q1 % 64 ≠ 0) (hq2 : q2 % 64 ≠ 0) (h12 : q1 ≠ q2) (h26 : q2 ≠ 6) (hl : ops.length ≤ 2199023255488)
    (hq3 : q1 % 64 ≠ 47) (hq4 : q2 % 64 ≠ 47) (hQ : ∀ tag' σ', StepS [0, 47] ro tag σ tag' σ' → Q true σ') : c_ref08_SameOps B ro s1 s2 σ Q := by
  refine ref08_SameOps_ok fun hs => ?_
  unfold f_ref08_SameOps
  have hl1 := (h1.d hs).1
  have hl2 := (h2.d hs).1
  rw [if_neg (by rw [hl1, hl2]; exact fun h => h rfl)]
  suffices ∀ m j tag4 σ4, j + m = ops.length → StepS [0, 47] ro tag σ tag4 σ4 → lfpD (l2_ref08_SameOps B ro s1 s2 Q) (j : Int) σ4 from this _ 0 tag σ (Nat.zero_add _) (StepS.refl hs)
  intro m
  induction m with
  | zero =>
    intro j tag4 σ4 hj st4
    refine lfpD.intro ?_
    unfold l2_ref08_SameOps
    rw [if_neg (by omega)]
    unfold j1_ref08_SameOps
    exact hQ tag4 σ4 st4
  | succ m ih =>
    intro j tag4 σ4 hj st4
    have hjl : j < ops.length := by omega
    have hs4 := st4.sep
    have ho := List.getElem?_eq_getElem hjl
    obtain ⟨dd1, a1, a2, a3⟩ := h1.keepS st4 (by simp [hq1, hq3]) (by decide)
    obtain ⟨dd2, b1, b2, b3⟩ := h2.keepS st4 (by simp [hq2, hq4]) (by decide)
    have hd1 : dd1[j]? = some dd1[j] := List.getElem?_eq_getElem (by omega)
    have hd2 : dd2[j]? = some dd2[j] := List.getElem?_eq_getElem (by omega)
    obtain ⟨c1, e1, t1, g1⟩ := RowW.get a2 hs4 (j := j) (x := opV ops[j] dd1[j]) (by rw [List.getElem?_zipWith, ho, hd1])
    obtain ⟨c2, e2, t2, g2⟩ := RowW.get b2 hs4 (j := j) (x := opV ops[j] dd2[j]) (by rw [List.getElem?_zipWith, ho, hd2])
    have k1 := a3 j _ _ ho hd1
    have k2 := b3 j _ _ ho hd2
    generalize ops[j] = o at g1 g2 k1 k2
    generalize dd1[j] = u1 at g1 k1
    generalize dd2[j] = u2 at g2 k2
    refine lfpD.intro ?_
    unfold l2_ref08_SameOps
    rw [if_pos (by omega)]
    have hX : ∃ ob, σ4 c2 = some ob := by
      rcases b2 with ⟨rfl, _⟩ | ⟨b', cs, hb', _, hx, _⟩
      · cases e2
      · rw [e2] at hb'; cases hb'; exact ⟨_, hx⟩
    refine lent_block c2 ?_
    have hsL : SL.Sep (join ro (SL.one σ4 c2)) (SL.del σ4 c2) := hs4.lent
    refine ⟨_, e1, by omega, by omega, _, e2, by omega, by omega, o.kind, S o.path, u2, o.ver, o.eph, o.seq, cellsAt_of 0 fun i v hv => ?_, o.kind, S o.path, u1, o.ver, o.eph, o.seq, cellsAt_of 0 fun i v hv => ?_, ?_⟩
    · rw [Nat.zero_add, Int.toNat_natCast, add_add, add_add, Nat.zero_add]
      exact acell_one (a := ⟨c2, j * 6 + i, none⟩) (g2 i v hv)
    · rw [Nat.zero_add, Int.toNat_natCast, add_add, add_add, Nat.zero_add, acell_lent]
      exact g1 i v hv
    refine nw_cells (tag := tag4) 0 hsL fun X6 tag5 σ5 st5 r5 => ?_
    refine nw_cells (tag := tag5) 47 (st5 []).sep fun X7 tag6 σ6 st6 r6 => ?_
    refine stA_cells (r5.keep (st6 []) (by simp)) (st6 []).sep rfl (by simp [storable, Sl.v]) fun σ7 st7 r7 _ => ?_
    refine stA_cells (r6.keep st7 (by decide)) st7.sep rfl (by simp [storable, Sl.v]) fun σ8 st8 r8 _ => ?_
    intro hdis
    have sA : Step [0, 47] (join ro (SL.one σ4 c2)) tag4 (SL.del σ4 c2) tag6 σ8 := (st5 _).trans ((st6 _).trans ((st7.mono (by simp)).trans (st8.mono (by simp))))
    have stB := sA.back hs4 hdis hX
    have sB : StepS [0, 47] ro tag4 σ4 _ _ := stB.s (by decide)
    have r6B := (r7.keep st8 (by decide)).back (r' := tag4 c2) hdis hX
    have r7B := r8.back (r' := tag4 c2) hdis hX
    have hsB := stB.sep
    obtain ⟨p6, hp6, g6⟩ := r6B.ptr hsB (by simp)
    cases hp6
    obtain ⟨p7, hp7, g7⟩ := r7B.ptr hsB (by simp)
    cases hp7
    refine ⟨_, by have := g6 0 _ rfl; rwa [Nat.zero_mul, add_zero] at this, _, by have := g7 0 _ rfl; rwa [Nat.zero_mul, add_zero] at this, ?_⟩
    rw [if_neg (by simp)]
    refine ⟨_, g6 1 _ rfl, _, g7 1 _ rfl, ?_⟩
    rw [show (!(decide (S o.path = S o.path))) = false by simp]
    unfold j12_ref08_SameOps
    rw [if_neg (by simp)]
    refine ⟨_, g6 2 _ rfl, _, g7 2 _ rfl, ?_⟩
    refine same_ok ((k1.keepS sB (by decide)).read hsB) ((k2.keepS sB (by decide)).read hsB) ?_
    rw [decide_eq_true rfl]
    unfold j14_ref08_SameOps
    rw [if_neg (by simp)]
    refine ⟨_, g6 3 _ rfl, _, g7 3 _ rfl, ?_⟩
    rw [show (!(decide (o.ver = o.ver))) = false by simp]
    unfold j16_ref08_SameOps
    rw [if_neg (by simp)]
    refine ⟨_, g6 4 _ rfl, _, g7 4 _ rfl, ?_⟩
    rw [show (!(o.eph == o.eph)) = false by simp]
    unfold j18_ref08_SameOps
    rw [if_neg (by simp)]
    refine ⟨_, g6 5 _ rfl, _, g7 5 _ rfl, ?_⟩
    rw [show (!(o.seq == o.seq)) = false by simp]
    unfold j20_ref08_SameOps
    rw [if_neg (by simp), Pa.inc j (by omega)]
    exact ih (j + 1) _ _ (by omega) (st4.trans sB)
end Go.Proofs.YthfpmipeejjogaaGreatDoor.Zt

/- MultiPuts, the walk. -/
namespace Go.Proofs.YthfpmipeejjogaaGreatDoor.Zt
open Go Go.Proofs.YthfpmipeejjogaaGreatDoor.SL Go.Proofs.YthfpmipeejjogaaGreatDoor.G Go.Proofs.YthfpmipeejjogaaGreatDoor.Pa Go.Proofs.YthfpmipeejjogaaGreatDoor.Wi
set_option linter.unusedSimpArgs false
set_option linter.unusedVariables false
set_option maxRecDepth 100000
variable {B : World} {ro σ σ' : AH} {tag tag' : Nat → Nat}

def putB (l : List MOp) : Str := (putE l).getD []
def putR (l : List MOp) : Int := if putE l = none then 80 else 0
theorem putB_len {l : List MOp} (hsm : ∀ o ∈ l, o.path.length ≤ 1048576 ∧ o.data.length ≤ 1048576) : (putB l).length ≤ 140737488355328 := by
  unfold putB putE
  split
  · simp
  rename_i h1
  split
  · rename_i h2
    show (encOps l).length ≤ _
    have : ∀ m : List MOp, (∀ o ∈ m, okOp o ∧ o.path.length ≤ 1048576 ∧ o.data.length ≤ 1048576) → (m.flatMap encOp).length ≤ 2097200 * m.length := by
      intro m
      induction m with
      | nil => intro _; simp
      | cons o m ih =>
        intro h
        obtain ⟨a, b, c⟩ := h o (by simp)
        have := encOp_len a b c
        have := ih fun x hx => h x (by simp [hx])
        rw [List.flatMap_cons, List.length_append, List.length_cons]
        omega
    have h3 := this l fun o ho => ⟨h2 o ho, hsm o ho⟩
    have h4 := vput9 (l.length : Int) (by omega) (by omega)
    rw [Int.toNat_natCast] at h4
    unfold encOps
    rw [List.length_append]
    omega
  · simp
theorem puts_ok {a0 a1 : Sl} {l : List MOp} {b : Str} (g : Glob ro) (hO : OpsR ro a0 l) (hl : l.length ≤ 1048576) (hsm : ∀ o ∈ l, o.path.length ≤ 1048576 ∧ o.data.length ≤ 1048576) (hb : SL.Read ro (fun _ => none) a1 (b.map vU)) (hc : a1.len ≤ a1.cap) (hbl : b.length ≤ 1048576) :
    c_law08_MultiPuts B ro a0 a1 σ fun r _ => r = true := by
  refine law08_MultiPuts_ok fun hs => ?_
  unfold f_law08_MultiPuts
  have hpl := putB_len hsm
  -- the end
  have fin : ∀ (x18 : Sl) (tagZ : Nat → Nat) (σZ : AH), SL.Sep ro σZ → Row tagZ σZ 6 5 x18 ((putB l).map vU) → j15_law08_MultiPuts B ro a0 x18 (putR l) (fun r _ => r = true) false σZ := by
    intro x18 tagZ σZ hsZ rZ
    unfold j15_law08_MultiPuts
    rw [if_neg (by simp)]
    unfold putR
    by_cases hn : putE l = none
    · rw [if_pos hn, if_neg (by decide)]
      exact awake8_ok g fun _ _ => rfl
    rw [if_neg hn, if_pos rfl]
    obtain ⟨p, hp⟩ : ∃ p, putE l = some p := by
      cases e : putE l with
      | none => exact absurd e hn
      | some p => exact ⟨p, rfl⟩
    have hpb : putB l = p := by unfold putB; rw [hp]; rfl
    have hg := getE_put hp fun o ho => by have := hsm o ho; omega
    rw [hpb] at rZ hpl
    refine mget_ok (tag := tagZ) (q := 44) (by decide) (by decide) (by decide) (by decide) (rZ.read hsZ) hpl (fun h => by rw [hg] at h; cases h) fun l' hl' s tag1 σ1 st1 o1 => ?_
    rw [hg] at hl'
    obtain rfl := Option.some.inj hl'
    rw [if_pos rfl]
    refine ops_ok (tag := tag1) (q := 45) (by decide) (by decide) (by decide) (fun tag' σ' st => (o1.keepS st (by decide) (by decide)).d st.sep) (by omega) fun s2 tag2 σ2 st2 o2 => ?_
    refine ops_ok (tag := tag2) (q := 46) (by decide) (by decide) (by decide) (fun tag' σ' st => hO.d) (by omega) fun s3 tag3 σ3 st3 o3 => ?_
    refine sameOps_ok (o2.keepS st3 (by decide) (by decide)) o3 (by decide) (by decide) (by decide) (by decide) (by omega) (by decide) (by decide) fun tag4 σ4 st4 => ?_
    unfold j19_law08_MultiPuts
    rw [if_pos rfl]
    refine awake8_ok g fun _ _ => ?_
    unfold j21_law08_MultiPuts
    rfl
  refine copied_ok (tag := fun _ => 0) hO (by omega) fun s1 tag1 σ1 st1 o1 => ?_
  -- behind the first Put
  have rest : ∀ (x18 : Sl) (tag2 : Nat → Nat) (σ2 : AH), SL.Sep ro σ2 → Row tag2 σ2 6 5 x18 ((putB l).map vU) →
      c_law08_ops B ro a0 σ2 fun x23_4 σ => c_ref08_Put B ro x23_4 σ fun x24_5 x24_6 σ => c_ref01_Copy B ro a1 σ fun x29_7 σ => c_multi_Get B ro x29_7 σ fun x30_8 x30_9 σ => c_ref08_Get B ro a1 σ fun x35_10 x35_11 σ => c_ref01_Same B ro x18 x24_5 σ fun x40_12 σ =>
        if ((¬ (x40_12 = true)) ∨ (¬ (putR l = x24_6))) ∨ (¬ (x35_11 = (decide (x30_9 = 0)))) then
          j13_law08_MultiPuts B ro a0 x18 x24_6 x30_8 x35_10 x35_11 (fun r _ => r = true) true σ
        else
        if ¬ (x35_11 = true) then
          j30_law08_MultiPuts B ro a0 x18 (putR l) x24_6 x30_8 x30_9 x35_10 x35_11 x40_12 (fun r _ => r = true) ((!(decide (x30_9 = 13))) || (decide (0 < (x30_8.len : Int)))) σ
        else
        j30_law08_MultiPuts B ro a0 x18 (putR l) x24_6 x30_8 x30_9 x35_10 x35_11 x40_12 (fun r _ => r = true) false σ := by
    intro x18 tag2 σ2 hs2 r2
    refine ops_ok (tag := tag2) (q := 40) (by decide) (by decide) (by decide) (fun tag' σ' st => hO.d) (by omega) fun s3 tag3 σ3 st3 o3 => ?_
    have r3 := r2.keepS st3 (by decide)
    have rest2 : ∀ (x24 : Sl) (tag4 : Nat → Nat) (σ4 : AH), StepS [0] ro tag3 σ3 tag4 σ4 → Row tag4 σ4 6 5 x24 ((putB l).map vU) →
        c_ref01_Copy B ro a1 σ4 fun x29_7 σ => c_multi_Get B ro x29_7 σ fun x30_8 x30_9 σ => c_ref08_Get B ro a1 σ fun x35_10 x35_11 σ => c_ref01_Same B ro x18 x24 σ fun x40_12 σ =>
          if ((¬ (x40_12 = true)) ∨ (¬ (putR l = putR l))) ∨ (¬ (x35_11 = (decide (x30_9 = 0)))) then
            j13_law08_MultiPuts B ro a0 x18 (putR l) x30_8 x35_10 x35_11 (fun r _ => r = true) true σ
          else
          if ¬ (x35_11 = true) then
            j30_law08_MultiPuts B ro a0 x18 (putR l) (putR l) x30_8 x30_9 x35_10 x35_11 x40_12 (fun r _ => r = true) ((!(decide (x30_9 = 13))) || (decide (0 < (x30_8.len : Int)))) σ
          else
          j30_law08_MultiPuts B ro a0 x18 (putR l) (putR l) x30_8 x30_9 x35_10 x35_11 x40_12 (fun r _ => r = true) false σ := by
      intro x24 tag4 σ4 st4 r4
      have r34 := r3.keepS st4 (by decide)
      refine copy_ok (tag := tag4) hb.keep st4.sep (by simp; omega) (fun v hv => by obtain ⟨c, _, rfl⟩ := List.mem_map.1 hv; rfl) fun s5 tag5 σ5 st5 r5 => ?_
      have r35 := r34.keep (st5 []) (by simp)
      have r45 := r4.keep (st5 []) (by simp)
      refine mget_ok (tag := tag5) (q := 41) (by decide) (by decide) (by decide) (by decide) (r5.read (st5 []).sep) (by omega) (fun hn tag6 σ6 st6 => ?_) fun y hy s6 tag6 σ6 st6 o6 => ?_
      · refine rget8_ok (tag := tag6) (q := 42) (by decide) (by decide) (by decide) (by decide) hb hc (by omega) (fun _ s7 tag7 σ7 st7 => ?_) fun y hy => by rw [hn] at hy; cases hy
        have r37 := (r35.keepS st6 (by decide)).keepS st7 (by decide)
        have r47 := (r45.keepS st6 (by decide)).keepS st7 (by decide)
        refine same_ok (r37.read st7.sep) (r47.read st7.sep) ?_
        rw [decide_eq_true rfl, if_neg (by simp), if_pos (by simp)]
        unfold j30_law08_MultiPuts
        unfold j13_law08_MultiPuts
        rw [show ((!(decide ((13 : Int) = 13))) || (decide ((0 : Int) < (((⟨none, 0, 0⟩ : Sl).len : Nat) : Int)))) = false by decide]
        rw [if_neg (by simp), if_neg (by simp)]
        exact fin x18 tag7 σ7 st7.sep r37
      · refine rget8_ok (tag := tag6) (q := 42) (by decide) (by decide) (by decide) (by decide) hb hc (by omega) (fun hn => by rw [hy] at hn; cases hn) fun y' hy' s7 tag7 σ7 st7 o7 => ?_
        rw [hy] at hy'
        obtain rfl := Option.some.inj hy'
        have r37 := (r35.keepS st6 (by decide)).keepS st7 (by decide)
        have r47 := (r45.keepS st6 (by decide)).keepS st7 (by decide)
        have hyl : y.length ≤ 2199023255488 := by
          have e : getE b = if (rnum ⟨b, 0⟩).2.err ≠ 0 ∨ 16 < (rnum ⟨b, 0⟩).1 then none else match getL (rnum ⟨b, 0⟩).1 (rnum ⟨b, 0⟩).2 with | none => none | some (l, r) => if r.rest = [] then some l else none := rfl
          rw [hy] at e
          by_cases hcc : (rnum ⟨b, 0⟩).2.err ≠ 0 ∨ 16 < (rnum ⟨b, 0⟩).1
          · rw [if_pos hcc] at e; cases e
          rw [if_neg hcc] at e
          simp only [not_or, Classical.not_not] at hcc
          cases e2 : getL (rnum ⟨b, 0⟩).1 (rnum ⟨b, 0⟩).2 with
          | none => rw [e2] at e; cases e
          | some z =>
            obtain ⟨l', r'⟩ := z
            rw [e2] at e
            simp only at e
            have := (getL_err _ _ _ _ e2 hcc.1).2
            split at e
            · cases e; omega
            · cases e
        refine same_ok (r37.read st7.sep) (r47.read st7.sep) ?_
        rw [decide_eq_true rfl, if_neg (by simp), if_neg (by simp)]
        unfold j30_law08_MultiPuts
        unfold j13_law08_MultiPuts
        rw [if_neg (by simp), if_pos rfl]
        have o67 := o6.keepS st7 (by decide) (by decide)
        refine ops_ok (tag := tag7) (q := 43) (by decide) (by decide) (by decide) (fun tag' σ' st => (o67.keepS st (by decide) (by decide)).d st.sep) hyl fun s8 tag8 σ8 st8 o8 => ?_
        refine sameOps_ok o8 (o7.keepS st8 (by decide) (by decide)) (by decide) (by decide) (by decide) (by decide) hyl (by decide) (by decide) fun tag9 σ9 st9 => ?_
        exact fin x18 tag9 σ9 st9.sep ((r37.keepS st8 (by decide)).keepS st9 (by decide))
    refine rput8_ok (tag := tag3) (fun tag' σ' st => (o3.keepS st (by decide) (by decide)).d st.sep) hsm (fun hn tag4 σ4 st4 => ?_) fun p hp s4 tag4 σ4 st4 r4 => ?_
    · have e1 : putR l = 80 := by unfold putR; rw [if_pos hn]
      have e2 : putB l = [] := by unfold putB; rw [hn]; rfl
      have := rest2 ⟨none, 0, 0⟩ tag4 σ4 st4 (by rw [e2]; exact Row.nil _ _)
      rw [e1] at this ⊢
      exact this
    · have e1 : putR l = 0 := by unfold putR; rw [if_neg (by rw [hp]; simp)]
      have e2 : putB l = p := by unfold putB; rw [hp]; rfl
      have := rest2 s4 tag4 σ4 st4 (by rw [e2]; exact r4)
      rw [e1] at this ⊢
      exact this
  refine mput_ok (tag := tag1) (fun tag' σ' st => (o1.keepS st (by decide) (by decide)).d st.sep) hsm (fun hn tag2 σ2 st2 => ?_) fun p hp s2 tag2 σ2 st2 r2 => ?_
  · have e1 : putR l = 80 := by unfold putR; rw [if_pos hn]
    have e2 : putB l = [] := by unfold putB; rw [hn]; rfl
    have := rest ⟨none, 0, 0⟩ tag2 σ2 st2.sep (by rw [e2]; exact Row.nil _ _)
    rw [e1] at this
    exact this
  · have e1 : putR l = 0 := by unfold putR; rw [if_neg (by rw [hp]; simp)]
    have e2 : putB l = p := by unfold putB; rw [hp]; rfl
    have := rest s2 tag2 σ2 st2.sep (by rw [e2]; exact r2)
    rw [e1] at this
    exact this
end Go.Proofs.YthfpmipeejjogaaGreatDoor.Zt

/- ZtreeShape: the script as it stands in memory. -/
namespace Go.Proofs.YthfpmipeejjogaaGreatDoor.Zt
open Go Go.Proofs.YthfpmipeejjogaaGreatDoor.SL Go.Proofs.YthfpmipeejjogaaGreatDoor.G Go.Proofs.YthfpmipeejjogaaGreatDoor.Pa
set_option linter.unusedSimpArgs false
set_option linter.unusedVariables false

theorem c5 : Tryz.prog.cellsOf 5 = 1 := by kernel_rfl
theorem c3 : Tryz.prog.cellsOf 3 = 1 := by kernel_rfl
theorem c9 : Tryz.prog.cellsOf 9 = 1 := by kernel_rfl
theorem c30 : Tryz.prog.cellsOf 30 = 1 := by kernel_rfl
theorem c4 : Tryz.prog.cellsOf 4 = 1 := by kernel_rfl
theorem b5 : Tryz.prog.bytesOf 5 = 1 := by kernel_rfl
theorem u4b : Tryz.prog.underlying 4 = some .bool := by kernel_rfl
theorem u3' : Tryz.prog.underlying 3 = some (.int .i64) := by kernel_rfl
theorem u4' : Tryz.prog.underlying 4 = some .bool := by kernel_rfl

theorem bytes_of {W : World} {H : Type} {enc : TypeId × Value → H} {a : Option Addr} {len cap : Nat} (h : Arg Tryz.prog W H enc 30 [.slice a len cap]) : ∃ d : Str, d.length ≤ 140737488351232 ∧ SL.Read (all W) (fun _ => none) ⟨a, len, cap⟩ (d.map vU) := by
  rcases h.slice u30 with ⟨rfl, rfl, rfl⟩ | ⟨x, rfl, hl, hb, hel⟩
  · exact ⟨[], by decide, rfl, fun _ => rfl, fun p h => by cases h⟩
  · rw [c5] at hel
    rw [b5, Nat.mul_one] at hb
    have key : ∀ j : Nat, ∃ c : UInt8, j < len → W.cell? (x.add j) = some (vU c) := fun j => by
      by_cases hj : j < len
      · obtain ⟨cs, h1, h2, h3⟩ := hel j hj
        match cs, h1 with
        | [u], _ =>
          obtain ⟨c, rfl⟩ := h3.u8 u5
          have := h2 0 (by omega)
          rw [Nat.mul_one, add_zero] at this
          exact ⟨c, fun _ => this⟩
      · exact ⟨0, fun h => absurd h hj⟩
    obtain ⟨f, hf⟩ := Classical.axiomOfChoice key
    refine ⟨(List.range len).map f, by simp [reachBytes] at hb ⊢; omega, by simp, (fun h => by cases h), fun p hp i v hv => ?_⟩
    cases hp
    have hi : i < len := by
      rcases Nat.lt_or_ge i len with h | h
      · exact h
      · rw [List.getElem?_eq_none (by simpa using h)] at hv; cases hv
    rw [List.getElem?_map, List.getElem?_map, List.getElem?_range hi] at hv
    cases hv
    exact all_cell _ (hf i hi)

end Go.Proofs.YthfpmipeejjogaaGreatDoor.Zt

/- The scripts of several changes, as they stand in memory. -/
namespace Go.Proofs.YthfpmipeejjogaaGreatDoor.Zt
open Go Go.Proofs.YthfpmipeejjogaaGreatDoor.SL Go.Proofs.YthfpmipeejjogaaGreatDoor.G Go.Proofs.YthfpmipeejjogaaGreatDoor.Pa
set_option linter.unusedSimpArgs false
set_option linter.unusedVariables false

theorem c82 : Tryz.prog.cellsOf 82 = 6 := by kernel_rfl
theorem b82 : Tryz.prog.bytesOf 82 = 64 := by kernel_rfl
theorem u70 : Tryz.prog.underlying 70 = some (.slice 82) := by kernel_rfl
theorem u82 : ∃ fs, Tryz.prog.underlying 82 = some (.struct fs) ∧ fs.toList.map (fun f => (f.type, f.offset)) = [(3, 0), (9, 1), (30, 2), (3, 3), (4, 4), (4, 5)] := ⟨_, Tryz.underlying82, rfl⟩
theorem fld {W : World} {H : Type} {enc : TypeId × Value → H} {t : TypeId} {cs : List Value} {L : List (TypeId × Nat)} (h : Arg Tryz.prog W H enc t cs) (hu : ∃ fs, Tryz.prog.underlying t = some (.struct fs) ∧ fs.toList.map (fun f : Field => (f.type, f.offset)) = L) :
    cs.length = Tryz.prog.cellsOf t ∧ ∀ (i : Nat) (t' : TypeId) (o : Nat), L[i]? = some (t', o) → Arg Tryz.prog W H enc t' ((cs.drop o).take (Tryz.prog.cellsOf t')) := by
  obtain ⟨fs, hu, hfs⟩ := hu
  obtain ⟨hl, hel⟩ := h.struct hu
  refine ⟨hl, fun i t' o hi => ?_⟩
  rw [← hfs, List.getElem?_map] at hi
  obtain ⟨f, hf, e⟩ := Option.map_eq_some_iff.1 hi
  have := hel i f hf
  simp only [Prod.mk.injEq] at e
  rw [e.1, e.2] at this
  exact this
theorem isSl {W : World} {H : Type} {enc : TypeId × Value → H} {t e : TypeId} {v : Value} (hu : Tryz.prog.underlying t = some (.slice e)) (h : Arg Tryz.prog W H enc t [v]) : ∃ a len cap, v = .slice a len cap := by
  obtain ⟨fuel, d, ps, hf, _⟩ := h
  rcases Go.Deep.open_slice hu hf with ⟨e, _⟩ | ⟨x, l, c, _, _, _, _, e, _⟩
  · simp at e; exact ⟨_, _, _, e⟩
  · simp at e; exact ⟨_, _, _, e⟩
set_option maxRecDepth 100000 in
theorem mop_of {W : World} {H : Type} {enc : TypeId × Value → H} {cs : List Value} (h : Arg Tryz.prog W H enc 82 cs) :
    ∃ (o : MOp) (ds : Sl), cs = opV o ds ∧ o.data.length ≤ 140737488351232 ∧ SL.Read (all W) (fun _ => none) ds (o.data.map vU) := by
  obtain ⟨hl, get⟩ := fld h u82
  rw [c82] at hl
  match cs, hl with
  | [v0, v1, v2, v3, v4, v5], _ =>
    have a0 := get 0 _ _ rfl
    have a1 := get 1 _ _ rfl
    have a2 := get 2 _ _ rfl
    have a3 := get 3 _ _ rfl
    have a4 := get 4 _ _ rfl
    have a5 := get 5 _ _ rfl
    rw [c3] at a0 a3
    rw [c9] at a1
    rw [c30] at a2
    rw [c4] at a4 a5
    obtain ⟨x0, rfl⟩ := Arg.i64 u3' a0
    obtain ⟨x1, rfl⟩ := Arg.i64 u3' a3
    obtain ⟨s, rfl, _⟩ := Arg.str u9 a1
    obtain ⟨b, rfl⟩ := Arg.bool u4' a4
    obtain ⟨b2, rfl⟩ := Arg.bool u4' a5
    obtain ⟨a, len, cap, rfl⟩ := isSl u30 a2
    obtain ⟨d, h1, h2⟩ := bytes_of a2
    exact ⟨⟨x0, L s, d, x1, b, b2⟩, ⟨a, len, cap⟩, by simp [opV, Sl.v], h1, h2⟩
set_option maxRecDepth 100000 in
theorem mops_of {W : World} {H : Type} {enc : TypeId × Value → H} {a : Option Addr} {len cap : Nat} (h : Arg Tryz.prog W H enc 70 [.slice a len cap]) :
    ∃ os : List MOp, OpsR (all W) ⟨a, len, cap⟩ os ∧ os.length ≤ 2199023255488 := by
  rcases h.slice u70 with ⟨rfl, rfl, rfl⟩ | ⟨x, rfl, hl, hb, hel⟩
  · exact ⟨[], ⟨rfl, fun j o h => by cases h⟩, by decide⟩
  · rw [c82] at hel
    rw [b82] at hb
    have key : ∀ j : Nat, ∃ q : MOp × Sl, j < len → (∀ σ, cellsAt (all W) σ (x.add (j * 6)) 0 (opV q.1 q.2)) ∧ q.1.data.length ≤ 140737488351232 ∧ SL.Read (all W) (fun _ => none) q.2 (q.1.data.map vU) := fun j => by
      by_cases hj : j < len
      · obtain ⟨cs, h1, h2, h3⟩ := hel j hj
        obtain ⟨o, ds, rfl, h4, h5⟩ := mop_of h3
        refine ⟨(o, ds), fun _ => ⟨fun σ => cellsAt_of 0 fun i v hv => ?_, h4, h5⟩⟩
        have hi : i < 6 := by
          rcases Nat.lt_or_ge i 6 with h | h
          · exact h
          · rw [List.getElem?_eq_none (by simpa [opV] using h)] at hv; cases hv
        have := h2 i hi
        rw [hv] at this
        rw [Nat.zero_add]
        exact all_cell σ this
      · exact ⟨(⟨0, [], [], 0, false, false⟩, ⟨none, 0, 0⟩), fun h => absurd h hj⟩
    obtain ⟨f, hf⟩ := Classical.axiomOfChoice key
    refine ⟨(List.range len).map fun j => (f j).1, ⟨by simp, fun j o ho => ?_⟩, by simp [reachBytes] at hb ⊢; omega⟩
    have hj : j < len := by
      rcases Nat.lt_or_ge j len with h | h
      · exact h
      · rw [List.getElem?_eq_none (by simpa using h)] at ho; cases ho
    rw [List.getElem?_map, List.getElem?_range hj] at ho
    cases ho
    obtain ⟨h1, h2, h3⟩ := hf j hj
    exact ⟨x, (f j).2, rfl, h1, h3, h2⟩
end Go.Proofs.YthfpmipeejjogaaGreatDoor.Zt

/- How long the slices within a struct are. -/
namespace Go.Proofs.YthfpmipeejjogaaGreatDoor.SL
open Go
theorem upto_field {H : Type} {enc : TypeId × Value → H} {P : Program} {W : World} {t : TypeId} {fs : Array Field} {cs : List Value} {fuel n : Nat} {d : DataW H} {ps : List MemPlace} (ht : P.underlying t = some (.struct fs))
    (hf : DataW.trod enc P W 0 (fun _ => true) true fuel t cs = some (d, ps)) (hb : Rows.uptoBulk d ≤ n) {i : Nat} {f : Field} (hi : fs.toList[i]? = some f) :
    ∃ fuel' d' ps', DataW.trod enc P W 0 (fun _ => true) true fuel' f.type ((cs.drop f.offset).take (P.cellsOf f.type)) = some (d', ps') ∧ Rows.uptoBulk d' ≤ n := by
  cases fuel with
  | zero => cases hf
  | succ m =>
    unfold DataW.trod at hf
    rw [ht] at hf
    simp only at hf
    split at hf
    · obtain ⟨r, hr, hd⟩ := Option.map_eq_some_iff.1 hf
      have h1 := mapM_some_get hr i f hi
      have h2 := mapM_some_length hr
      have hil : i < fs.toList.length := by
        rcases Nat.lt_or_ge i fs.toList.length with h' | h'
        · exact h'
        · rw [List.getElem?_eq_none h'] at hi; cases hi
      rw [List.getElem?_eq_getElem (by omega)] at h1
      simp only [Prod.mk.injEq] at hd
      rw [← hd.1] at hb
      simp only [Rows.uptoBulk] at hb
      have := bulkAll_get (l := r.map (·.1)) (i := i) (d := r[i].1) (by rw [List.getElem?_map, List.getElem?_eq_getElem (by omega)]; rfl)
      exact ⟨m, r[i].1, r[i].2, h1, by omega⟩
    · cases hf
end Go.Proofs.YthfpmipeejjogaaGreatDoor.SL
namespace Go.Proofs.YthfpmipeejjogaaGreatDoor.Zt
open Go Go.Proofs.YthfpmipeejjogaaGreatDoor.SL Go.Proofs.YthfpmipeejjogaaGreatDoor.G Go.Proofs.YthfpmipeejjogaaGreatDoor.Pa
theorem upto_fld {H : Type} {enc : TypeId × Value → H} {W : World} {t e t' : TypeId} {o : Nat} {L : List (TypeId × Nat)} {cs : List Value} {fuel n i : Nat} {d : DataW H} {ps : List MemPlace} {s : Sl} (hu : ∃ fs, Tryz.prog.underlying t = some (.struct fs) ∧ fs.toList.map (fun f : Field => (f.type, f.offset)) = L)
    (hf : DataW.trod enc Tryz.prog W 0 (fun _ => true) true fuel t cs = some (d, ps)) (hb : Rows.uptoBulk d ≤ n) (hi : L[i]? = some (t', o)) (ht : Tryz.prog.underlying t' = some (.slice e)) (hcs : (cs.drop o).take (Tryz.prog.cellsOf t') = [Sl.v s]) : s.len ≤ n := by
  obtain ⟨fs, hu, hfs⟩ := hu
  rw [← hfs, List.getElem?_map] at hi
  obtain ⟨f, hf', e⟩ := Option.map_eq_some_iff.1 hi
  simp only [Prod.mk.injEq] at e
  obtain ⟨m, d', ps', h1, h2⟩ := upto_field hu hf hb hf'
  rw [e.1, e.2, hcs] at h1
  exact upto_len ht h1 h2
end Go.Proofs.YthfpmipeejjogaaGreatDoor.Zt

/- How long the texts and the bytes within ops are. -/
namespace Go.Proofs.YthfpmipeejjogaaGreatDoor.SL
open Go
theorem upto_elem {H : Type} {enc : TypeId × Value → H} {P : Program} {W : World} {t e : TypeId} {x : Addr} {len cap fuel n : Nat} {d : DataW H} {ps : List MemPlace} (ht : P.underlying t = some (.slice e))
    (hf : DataW.trod enc P W 0 (fun _ => true) true fuel t [.slice (some x) len cap] = some (d, ps)) (hb : Rows.uptoBulk d ≤ n) :
    ∀ j, j < len → ∃ cs fuel' d' ps', cs.length = P.cellsOf e ∧ (∀ i, i < P.cellsOf e → W.cell? ((x.add (j * P.cellsOf e)).add i) = cs[i]?) ∧ DataW.trod enc P W 0 (fun _ => true) true fuel' e cs = some (d', ps') ∧ Rows.uptoBulk d' ≤ n := by
  rcases Go.Deep.open_slice ht hf with ⟨hcs, _⟩ | ⟨x', l, c, m, k, D, Pl, hcs, _, hl, _, hm, hx, hel⟩
  · simp at hcs
  · simp at hcs
    obtain ⟨rfl, rfl, rfl⟩ := hcs
    intro j hj
    simp only [Prod.mk.injEq] at hx
    rw [hx.1] at hb
    simp only [Rows.uptoBulk] at hb
    obtain ⟨cs, h1, h2⟩ := hel j (by simp at hm; omega)
    obtain ⟨_, h3, h4⟩ := World.cells?_some h1
    have := bulkAll_get (l := (List.range len).map D) (i := j) (d := D j) (by rw [List.getElem?_map, List.getElem?_range hj]; rfl)
    exact ⟨cs, _, D j, Pl j, h3, h4, h2, by omega⟩
theorem upto_text {H : Type} {enc : TypeId × Value → H} {P : Program} {W : World} {t : TypeId} {s : ByteArray} {fuel n : Nat} {d : DataW H} {ps : List MemPlace} (ht : P.underlying t = some .string)
    (hf : DataW.trod enc P W 0 (fun _ => true) true fuel t [.string s] = some (d, ps)) (hb : Rows.uptoBulk d ≤ n) : s.size ≤ n := by
  cases fuel with
  | zero => cases hf
  | succ m =>
    unfold DataW.trod at hf
    rw [ht] at hf
    simp at hf
    obtain ⟨_, rfl, _⟩ := hf
    simp only [Rows.uptoBulk] at hb
    simp at hb
    omega
end Go.Proofs.YthfpmipeejjogaaGreatDoor.SL
namespace Go.Proofs.YthfpmipeejjogaaGreatDoor.Zt
open Go Go.Proofs.YthfpmipeejjogaaGreatDoor.SL Go.Proofs.YthfpmipeejjogaaGreatDoor.G Go.Proofs.YthfpmipeejjogaaGreatDoor.Pa
set_option linter.unusedVariables false
theorem ops_small {H : Type} {enc : TypeId × Value → H} {W : World} {a : Option Addr} {len cap fuel n : Nat} {d : DataW H} {ps : List MemPlace} {os : List MOp} (hf : DataW.trod enc Tryz.prog W 0 (fun _ => true) true fuel 70 [.slice a len cap] = some (d, ps)) (hb : Rows.uptoBulk d ≤ n)
    (hO : OpsR (all W) ⟨a, len, cap⟩ os) : ∀ o ∈ os, o.path.length ≤ n ∧ o.data.length ≤ n := by
  intro o ho
  obtain ⟨j, hj, rfl⟩ := List.getElem_of_mem ho
  obtain ⟨q, ds, hq, hc, hrd, _⟩ := hO.2 j _ (List.getElem?_eq_getElem hj)
  generalize os[j] = o at hc hrd
  have hlen : os.length = len := hO.1.symm
  simp only at hq
  subst hq
  obtain ⟨cs, fuel', d', ps', h1, h2, h3, h4⟩ := upto_elem u70 hf hb j (by omega)
  rw [c82] at h1 h2
  have hcell : ∀ i v, (opV o ds)[i]? = some v → acell (all W) (fun _ => none) ((q.add (j * 6)).add i) = some v := fun i v hv => cellsAt_get (hc fun _ => none) hv
  have ecs : cs = opV o ds := by
    apply List.ext_getElem?
    intro i
    rcases Nat.lt_or_ge i 6 with hi | hi
    · have e1 := h2 i hi
      have e2 : cs[i]? = some cs[i] := List.getElem?_eq_getElem (by omega)
      rw [e2] at e1
      have e3 := all_cell (fun _ => none) e1
      have e4 : (opV o ds)[i]? = some (opV o ds)[i] := List.getElem?_eq_getElem (by simpa [opV] using hi)
      rw [hcell i _ e4] at e3
      rw [e2, e4, Option.some.inj e3]
    · rw [List.getElem?_eq_none (by omega), List.getElem?_eq_none (by simpa [opV] using hi)]
  subst ecs
  obtain ⟨fs, hu, hfs⟩ := u82
  constructor
  · have hi : (fs.toList.map fun f : Field => (f.type, f.offset))[1]? = some (9, 1) := by rw [hfs]; rfl
    rw [List.getElem?_map] at hi
    obtain ⟨f, hf', e⟩ := Option.map_eq_some_iff.1 hi
    simp only [Prod.mk.injEq] at e
    obtain ⟨m, d2, ps2, g1, g2⟩ := upto_field hu h3 h4 hf'
    rw [e.1, e.2] at g1
    have g1' : DataW.trod enc Tryz.prog W 0 (fun _ => true) true m 9 [.string (S o.path)] = some (d2, ps2) := by
      have : ((opV o ds).drop 1).take (Tryz.prog.cellsOf 9) = [.string (S o.path)] := by rw [c9]; rfl
      rw [this] at g1; exact g1
    have := upto_text u9 g1' g2
    rwa [S_size] at this
  · have := upto_fld ⟨fs, hu, hfs⟩ h3 h4 (i := 2) rfl u30 (show ((opV o ds).drop 2).take (Tryz.prog.cellsOf 30) = [Sl.v ds] by rw [c30]; rfl)
    have hl := hrd.1
    rw [List.length_map] at hl
    omega
where
  cellsAt_get {ro σ : AH} {p : Addr} {l : List Value} (h : SL.cellsAt ro σ p 0 l) {i : Nat} {v : Value} (hv : l[i]? = some v) : acell ro σ (p.add i) = some v := by
    have gen : ∀ (l : List Value) (k i : Nat) (v : Value), SL.cellsAt ro σ p k l → l[i]? = some v → acell ro σ (p.add (k + i)) = some v := by
      intro l
      induction l with
      | nil => intro k i v _ hv; cases hv
      | cons x l ih =>
        intro k i v h hv
        cases i with
        | zero => cases hv; exact h.1
        | succ i => have := ih (k + 1) i v h.2 (by simpa using hv); rw [← this]; congr 2; omega
    have := gen l 0 i v h hv
    rwa [Nat.zero_add] at this
end Go.Proofs.YthfpmipeejjogaaGreatDoor.Zt
