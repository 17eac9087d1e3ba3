/- WiD, WsC, GSn, SnB -/
import Derived.Test.YtfobjidchipdaaaGreatDoorXF
/- The wire, the walk: a reader's calls. -/
namespace Go.Proofs.YtfobjidchipdaaaGreatDoor.Wi
open Go Go.Proofs.YtfobjidchipdaaaGreatDoor.SL Go.Proofs.YtfobjidchipdaaaGreatDoor.G Go.Proofs.YtfobjidchipdaaaGreatDoor.Zt
set_option linter.unusedSimpArgs false
set_option linter.unusedVariables false
variable {B : World} {ro σ σ' : AH} {tag tag' : Nat → Nat}

/-- the end of a row of bytes -/
def Tail (tag : Nat → Nat) (σ : AH) (q : Nat) (s : Sl) (l : Str) : Prop :=
  (s = ⟨none, 0, 0⟩ ∧ l = []) ∨ ∃ (g : Nat) (cs : Array Value) (k : Nat), s.a = some ⟨g, k, none⟩ ∧ tag g = q ∧ σ g = some (.cells cs 5) ∧ s.len = l.length ∧ s.len ≤ s.cap ∧ ∀ (i : Nat) (c : UInt8), l[i]? = some c → cs[k + i]? = some (vU c)
theorem Tail.len {q : Nat} {s : Sl} {l : Str} (h : Tail tag σ q s l) : s.len = l.length := by
  rcases h with ⟨rfl, rfl⟩ | ⟨_, _, _, _, _, _, h, _⟩
  · rfl
  · exact h
theorem Tail.cap {q : Nat} {s : Sl} {l : Str} (h : Tail tag σ q s l) : s.len ≤ s.cap := by
  rcases h with ⟨rfl, rfl⟩ | ⟨_, _, _, _, _, _, _, h, _⟩
  · exact Nat.le_refl _
  · exact h
theorem Tail.keep {R : List Nat} {q : Nat} {s : Sl} {l : Str} (h : Tail tag σ q s l) (k : Step R ro tag σ tag' σ') (hr : q ∉ R) : Tail tag' σ' q s l := by
  rcases h with h | ⟨g, cs, o, ha, ht, hb, hx⟩
  · exact .inl h
  · obtain ⟨t, e⟩ := k.keep g _ hb (by rw [ht]; exact hr)
    exact .inr ⟨g, cs, o, ha, t.trans ht, e, hx⟩
theorem Tail.of_row {q : Nat} {s : Sl} {l : Str} (h : Row tag σ q 5 s (l.map vU)) : Tail tag σ q s l := by
  rcases h with ⟨rfl, h⟩ | ⟨b, cs, ha, ht, hb, hln, hc, hle, hg⟩
  · exact .inl ⟨rfl, by simpa using h⟩
  · refine .inr ⟨b, cs, 0, ha, ht, hb, by rw [hln, List.length_map], hle, fun i c hi => ?_⟩
    have hil : i < l.length := by
      rcases Nat.lt_or_ge i l.length with h | h
      · exact h
      · rw [List.getElem?_eq_none h] at hi; cases hi
    rw [Nat.zero_add, hg i (by simpa using hil), List.getElem?_map, hi]; rfl
theorem Tail.read {q : Nat} {s : Sl} {l : Str} (h : Tail tag σ q s l) (hs : SL.Sep ro σ) : SL.Read ro σ s (l.map vU) := by
  refine ⟨by rw [h.len, List.length_map], fun hn => ?_, fun p hp i v hv => ?_⟩
  · rcases h with ⟨_, rfl⟩ | ⟨_, _, _, ha, _⟩
    · rfl
    · rw [hn] at ha; cases ha
  · rcases h with ⟨rfl, _⟩ | ⟨g, cs, k, ha, ht, hb, hln, hle, hg⟩
    · cases hp
    · rw [hp] at ha; cases ha
      rw [List.getElem?_map] at hv
      obtain ⟨c, hc, rfl⟩ := Option.map_eq_some_iff.1 hv
      unfold acell rd
      simp only [add_add, hs g _ hb, hb, cellOf]
      exact hg i c hc
theorem Tail.drop {q e : Nat} {s : Sl} {l : Str} (h : Tail tag σ q s l) (he : e ≤ l.length) : Tail tag σ q ⟨cutA s.a e s.cap 1, s.len - e, s.cap - e⟩ (l.drop e) := by
  rcases h with ⟨rfl, rfl⟩ | ⟨g, cs, k, ha, ht, hb, hln, hle, hg⟩
  · have : e = 0 := by simpa using he
    subst this
    exact .inl ⟨by simp [cutA], rfl⟩
  · unfold cutA
    by_cases hc : s.cap = e
    · rw [if_pos hc]
      refine .inr ⟨g, cs, k, ha, ht, hb, by simp; omega, by simp; omega, fun i c hi => ?_⟩
      rw [List.drop_of_length_le (by omega)] at hi; cases hi
    · rw [if_neg hc]
      refine .inr ⟨g, cs, k + e, by simp [ha, add_add], ht, hb, by simp; omega, by simp; omega, fun i c hi => ?_⟩
      rw [List.getElem?_drop] at hi
      rw [Nat.add_assoc]; exact hg (e + i) c hi
/-- a reader at A, of the role r -/
def RdAt (tag : Nat → Nat) (σ : AH) (r A : Nat) (x : Rd) : Prop :=
  ∃ s : Sl, Row tag σ r 190 ⟨some ⟨A, 0, none⟩, 2, 2⟩ [Sl.v s, Zt.vI x.err] ∧ Tail tag σ 6 s x.rest ∧ x.rest.length ≤ 140737488355328
theorem RdAt.keep {R : List Nat} {r A : Nat} {x : Rd} (h : RdAt tag σ r A x) (k : Step R ro tag σ tag' σ') (h1 : r ∉ R) (h2 : 6 ∉ R) : RdAt tag' σ' r A x := by
  obtain ⟨s, a, b, c⟩ := h
  exact ⟨s, a.keep k h1, b.keep k h2, c⟩
set_option maxRecDepth 100000 in
theorem newReader_ok {r : Nat} {a : Sl} {b : Str} {Q : Option Addr → AH → Prop} (h : SL.Read ro σ a (b.map vU)) (hs : SL.Sep ro σ) (hl : b.length ≤ 140737488355328) (hQ : ∀ A tag' σ', (∀ R, Step R ro tag σ tag' σ') → RdAt tag' σ' r A ⟨b, 0⟩ → Q (some ⟨A, 0, none⟩) σ') :
    c_wire_NewReader B ro a σ Q := by
  refine wire_NewReader_ok fun _ => ?_
  unfold f_wire_NewReader
  refine clone_ok (tag := tag) h hs (by simp; omega) (vU_st _) fun s tag1 σ1 st1 r1 => ?_
  refine nw_cells (tag := tag1) r (st1 []).sep fun A tag2 σ2 st2 r2 => ?_
  exact hQ A tag2 σ2 (fun R => (st1 R).trans (st2 R)) ⟨s, r2, Tail.of_row (r1.keep (st2 []) (by simp)), hl⟩
theorem left_ok {r A : Nat} {x : Rd} {Q : Int → AH → Prop} (h : RdAt tag σ r A x) (hs : SL.Sep ro σ) (hQ : Q (x.rest.length : Nat) σ) : c_wire_Reader_Left B ro (some ⟨A, 0, none⟩) σ Q := by
  refine wire_Reader_Left_ok fun _ => ?_
  unfold f_wire_Reader_Left
  obtain ⟨s, a, b, c⟩ := h
  obtain ⟨p, hp, hg⟩ := a.ptr hs (by simp)
  cases hp
  refine ⟨_, rfl, s, hg 0 _ rfl, ?_⟩
  rw [b.len]; exact hQ
theorem rerr_ok {r A : Nat} {x : Rd} {Q : Int → AH → Prop} (h : RdAt tag σ r A x) (hs : SL.Sep ro σ) (hQ : Q x.err σ) : c_wire_Reader_Err B ro (some ⟨A, 0, none⟩) σ Q := by
  refine wire_Reader_Err_ok fun _ => ?_
  unfold f_wire_Reader_Err
  obtain ⟨s, a, b, c⟩ := h
  obtain ⟨p, hp, hg⟩ := a.ptr hs (by simp)
  cases hp
  exact ⟨_, rfl, x.err, hg 1 _ rfl, hQ⟩
set_option maxRecDepth 100000 in
theorem rdNum_ok {r A : Nat} {x : Rd} {Q : Int → AH → Prop} (h : RdAt tag σ r A x) (h6 : r ≠ 6) (hs : SL.Sep ro σ) (hQ : ∀ σ', Step [r] ro tag σ tag σ' → RdAt tag σ' r A (rnum x).2 → Q ((rnum x).1 : Nat) σ') : c_wire_Reader_Num B ro (some ⟨A, 0, none⟩) σ Q := by
  refine wire_Reader_Num_ok fun _ => ?_
  unfold f_wire_Reader_Num
  obtain ⟨s, a, b, c⟩ := id h
  obtain ⟨p, hp, hg⟩ := a.ptr hs (by simp)
  cases hp
  refine ⟨_, rfl, x.err, hg 1 _ rfl, ?_⟩
  by_cases he : x.err = 0
  · rw [if_neg (by simpa using he)]
    refine ⟨_, rfl, s, hg 0 _ rfl, ?_⟩
    refine number_ok (b.read hs) c ?_
    have hrn : rnum x = ((num x.rest).1, ⟨x.rest.drop (num x.rest).2.1, (num x.rest).2.2⟩) := by unfold rnum; rw [if_neg (by simpa using he)]
    rw [hrn] at hQ
    have hle := num_le x.rest
    have hln := b.len
    have hcp := b.cap
    refine ⟨_, rfl, ?_⟩
    refine a.st (i := 1) hs rfl (by simp) rfl fun σ1 st1 r1 => ?_
    obtain ⟨p1, hp1, hg1⟩ := r1.ptr st1.sep (by simp)
    cases hp1
    refine ⟨_, rfl, s, hg1 0 _ rfl, ⟨trivial, by omega, by simp only [cutHi]; omega⟩, _, rfl, ?_⟩
    rw [Int.toNat_natCast]
    refine r1.st (i := 0) st1.sep rfl (by simp) rfl fun σ2 st2 r2 => ?_
    refine hQ σ2 (st1.trans st2) ⟨_, r2, ((b.drop hle.1).keep st1 (by simpa using fun h => h6 h.symm)).keep st2 (by simpa using fun h => h6 h.symm), by simp; omega⟩
  · rw [if_pos (by simpa using he)]
    rw [rnum_bad he] at hQ
    exact hQ σ (Step.refl hs) h
end Go.Proofs.YtfobjidchipdaaaGreatDoor.Wi

/- Frames and numbers: the walk. -/
namespace Go.Proofs.YtfobjidchipdaaaGreatDoor.Wi
open Go Go.Proofs.YtfobjidchipdaaaGreatDoor.SL Go.Proofs.YtfobjidchipdaaaGreatDoor.G Go.Proofs.YtfobjidchipdaaaGreatDoor.Pa Go.Proofs.YtfobjidchipdaaaGreatDoor.Zt
set_option linter.unusedSimpArgs false
set_option linter.unusedVariables false
set_option maxRecDepth 100000
variable {B : World} {ro σ σ' : AH} {tag tag' : Nat → Nat}
theorem frame_ok {q : Nat} {s : Sl} {p : Str} {Q : Sl → Int → AH → Prop} (hq : q ≠ 0) (hs : SL.Sep ro σ) (hln : s.len = p.length) (hx : ∀ tag' σ', Step [] ro tag σ tag' σ' → SL.Read ro σ' s (p.map vU))
    (hno : 65536 < p.length → Q ⟨none, 0, 0⟩ 14 σ) (hok : p.length ≤ 65536 → ∀ s' tag' σ', (∀ R, q ∈ R → Step R ro tag σ tag' σ') → Row tag' σ' q 5 s' ((frame p).map vU) → Q s' 0 σ') : c_wire_Frame B ro s σ Q := by
  refine wire_Frame_ok fun _ => ?_
  unfold f_wire_Frame
  rw [hln]
  by_cases c : 65536 < p.length
  · rw [if_pos (by omega)]; exact hno c
  · rw [if_neg (by omega)]
    refine four_ok (tag := tag) (q := q) (by omega) fun s1 tag1 σ1 st1 e1 r1 => ?_
    refine four_ok (tag := tag1) (q := 0) (by omega) fun s2 tag2 σ2 st2 e2 r2 => ?_
    have r1' := r1.keep (st2 []) (by simp)
    refine awp_appendN r2 (st2 []).sep (hx _ _ ((st1 []).trans (st2 []))) u30 ty5 rfl (by simp [storable]) (by simp [four_len]; omega) (by decide) fun s3 tag3 σ3 st3 r3 => ?_
    refine ⟨s3, rfl, ?_⟩
    rw [← List.map_append] at r3
    have st3' := fun R => st3 R (.inl e2)
    refine sum_ok (r3.read (st3' []).sep) (by simp [four_len]; omega) ?_
    refine four_ok (tag := tag3) (q := 0) (crc_lt _) fun s4 tag4 σ4 st4 e4 r4 => ?_
    refine awp_appendN ((r1'.keep (st3' []) (by simp)).keep (st4 []) (by simp)) (st4 []).sep (r4.read (st4 []).sep) u30 ty5 rfl (by simp [storable]) (by simp [four_len]) (by decide) fun s5 tag5 σ5 st5 r5 => ?_
    refine ⟨s5, rfl, ?_⟩
    rw [← List.map_append] at r5
    have st5' := fun R => st5 R (.inl e1)
    refine awp_appendN r5 (st5' []).sep (hx _ _ ((st1 []).trans ((st2 []).trans ((st3' []).trans ((st4 []).trans (st5' [])))))) u30 ty5 rfl (by simp [storable]) (by simp [four_len]; omega) (by decide) fun s6 tag6 σ6 st6 r6 => ?_
    refine ⟨s6, rfl, hok (by omega) s6 tag6 σ6 (fun R hR => (st1 R).trans ((st2 R).trans ((st3' R).trans ((st4 R).trans ((st5' R).trans (st6 R (.inr hR))))))) ?_⟩
    rw [← List.map_append, List.append_assoc] at r6
    exact r6
theorem putA_ok {q n : Nat} {acc0 : Str} {s0 : Sl} {Q : Sl → AH → Prop} (hs : SL.Sep ro σ) (hn : n < 4611686018427387904) (ha0 : acc0.length ≤ 1048576) (h0 : Row tag σ q 5 s0 (acc0.map vU)) (hQ : ∀ s tag' σ', Step [q] ro tag σ tag' σ' → Row tag' σ' q 5 s ((acc0 ++ vput n).map vU) → Q s σ') : c_wire_put B ro s0 (n : Int) σ Q := by
  refine wire_put_ok fun _ => ?_
  unfold f_wire_put
  suffices ∀ (m k : Nat) (acc : Str) (s : Sl) (tag1 : Nat → Nat) (σ1 : AH), k < 128 ^ (m + 1) → acc.length + m < 20 + acc0.length → acc ++ vput k = acc0 ++ vput n → Step [q] ro tag σ tag1 σ1 → Row tag1 σ1 q 5 s (acc.map vU) → lfpD (l6_wire_put B ro Q) (s, (k : Int)) σ1 from
    this 8 n acc0 s0 tag σ (by omega) (by omega) rfl (Step.refl hs) h0
  intro m
  induction m with
  | zero =>
    intro k acc s tag1 σ1 hk ha he st r1
    have hk : k < 128 := by simpa using hk
    refine lfpD.intro ?_
    unfold l6_wire_put
    simp only
    rw [if_neg (by omega)]
    unfold j1_wire_put
    refine nw_cells (tag := tag1) 0 st.sep fun x tag2 σ2 st2 r2 => ?_
    rw [u8wrap (by omega)] at r2
    refine awp_appendN (l2 := [vU (UInt8.ofNat k)]) (r1.keep (st2 []) (by simp)) (st2 []).sep (by rw [vU_of (by omega)]; exact r2.read (st2 []).sep) u30 ty5 rfl (by simp [storable]) (by simp; omega) (by decide) fun s' tag3 σ3 st3 r3 => ?_
    refine ⟨s', rfl, hQ s' tag3 σ3 (st.trans ((st2 _).trans (st3 _ (.inr (by simp))))) ?_⟩
    rw [← he]
    rw [vput, if_pos hk, List.map_append]
    exact r3
  | succ m ih =>
    intro k acc s tag1 σ1 hk ha he st r1
    refine lfpD.intro ?_
    unfold l6_wire_put
    simp only
    by_cases h128 : 128 ≤ k
    · rw [if_pos (by omega)]
      refine nw_cells (tag := tag1) 0 st.sep fun x tag2 σ2 st2 r2 => ?_
      rw [u8or] at r2
      refine awp_appendN (l2 := [vU (UInt8.ofNat (k % 128 + 128))]) (r1.keep (st2 []) (by simp)) (st2 []).sep (by rw [vU_of (by omega)]; exact r2.read (st2 []).sep) u30 ty5 rfl (by simp [storable]) (by simp; omega) (by decide) fun s' tag3 σ3 st3 r3 => ?_
      refine ⟨s', rfl, ?_⟩
      rw [show Int.fdiv (k : Int) (2 ^ (min (Int.toNat 7) 64)) = ((k / 128 : Nat) : Int) by
        rw [show (2 : Int) ^ (min (Int.toNat 7) 64) = 128 from by decide, Int.fdiv_eq_ediv_of_nonneg _ (by decide)]; omega]
      refine ih (k / 128) (acc ++ [UInt8.ofNat (k % 128 + 128)]) s' tag3 σ3 (by rw [Nat.pow_succ] at hk; exact Nat.div_lt_of_lt_mul (by rw [Nat.mul_comm]; exact hk)) (by simp; omega) ?_ (st.trans ((st2 _).trans (st3 _ (.inr (by simp))))) (by rw [List.map_append]; exact r3)
      rw [← he, List.append_assoc]
      conv => rhs; rw [vput, if_neg (by omega)]
      rfl
    · rw [if_neg (by omega)]
      unfold j1_wire_put
      refine nw_cells (tag := tag1) 0 st.sep fun x tag2 σ2 st2 r2 => ?_
      rw [u8wrap (by omega)] at r2
      refine awp_appendN (l2 := [vU (UInt8.ofNat k)]) (r1.keep (st2 []) (by simp)) (st2 []).sep (by rw [vU_of (by omega)]; exact r2.read (st2 []).sep) u30 ty5 rfl (by simp [storable]) (by simp; omega) (by decide) fun s' tag3 σ3 st3 r3 => ?_
      refine ⟨s', rfl, hQ s' tag3 σ3 (st.trans ((st2 _).trans (st3 _ (.inr (by simp))))) ?_⟩
      rw [← he]
      rw [vput, if_pos (by omega), List.map_append]
      exact r3
def nums (ns : List Int) : Str := ns.flatMap fun n => vput n.toNat
theorem vput_len9 {n : Nat} (h : n < 4611686018427387904) : (vput n).length ≤ 9 := (vput_len 8 n (by omega)).2
theorem nums_len : ∀ {ns : List Int}, ns.all rightN = true → (nums ns).length ≤ 9 * ns.length := by
  intro ns
  induction ns with
  | nil => intro _; simp [nums]
  | cons n ns ih =>
    intro h
    rw [List.all_cons, Bool.and_eq_true] at h
    have := ih h.2
    have h1 : rightN n = true := h.1
    unfold rightN at h1
    simp at h1
    have := vput_len9 (n := n.toNat) (by omega)
    unfold nums at *
    rw [List.flatMap_cons, List.length_append, List.length_cons]
    omega
theorem numbers_ok {q : Nat} {s : Sl} {ns : List Int} {Q : Sl → Int → AH → Prop} (hs : SL.Sep ro σ) (hln : s.len = ns.length) (hl : ns.length ≤ 100) (hx : ∀ tag' σ', Step [q] ro tag σ tag' σ' → SL.Read ro σ' s (ns.map Zt.vI))
    (hno : ns.all rightN = false → ∀ tag' σ', Step [q] ro tag σ tag' σ' → Q ⟨none, 0, 0⟩ 10 σ')
    (hok : ns.all rightN = true → ∀ s' tag' σ', Step [q] ro tag σ tag' σ' → Row tag' σ' q 5 s' ((nums ns).map vU) → Q s' 0 σ') : c_wire_Numbers B ro s σ Q := by
  refine wire_Numbers_ok fun _ => ?_
  unfold f_wire_Numbers
  suffices ∀ (m j : Nat) (s' : Sl) (tag1 : Nat → Nat) (σ1 : AH), j + m = ns.length → (ns.take j).all rightN = true → Step [q] ro tag σ tag1 σ1 → Row tag1 σ1 q 5 s' ((nums (ns.take j)).map vU) → lfpD (l3_wire_Numbers B ro s Q) (s', (j : Int)) σ1 from
    this _ 0 _ tag σ (Nat.zero_add _) rfl (Step.refl hs) (Row.nil q 5)
  intro m
  induction m with
  | zero =>
    intro j s' tag1 σ1 hj ha st r
    refine lfpD.intro ?_
    unfold l3_wire_Numbers
    simp only
    rw [if_neg (by omega)]
    unfold j1_wire_Numbers
    rw [List.take_of_length_le (by omega)] at ha r
    exact hok ha s' tag1 σ1 st r
  | succ m ih =>
    intro j s' tag1 σ1 hj ha st r
    have hjl : j < ns.length := by omega
    refine lfpD.intro ?_
    unfold l3_wire_Numbers
    simp only
    rw [if_pos (by omega)]
    have h := hx tag1 σ1 st
    obtain ⟨p, hp⟩ : ∃ p, s.a = some p := by
      cases ha : s.a with
      | none => have := h.2.1 ha; simp at this; subst this; simp at hjl
      | some p => exact ⟨p, rfl⟩
    refine ⟨p, hp, by omega, by omega, ns[j], ?_, ?_⟩
    · rw [Int.toNat_natCast, Nat.mul_one]
      refine h.2.2 p hp j _ ?_
      rw [List.getElem?_map, List.getElem?_eq_getElem hjl]; rfl
    · refine right_ok ?_
      by_cases c : rightN ns[j] = true
      · rw [if_neg (by simpa using c)]
        have c' := c
        unfold rightN at c'
        simp at c'
        have e : ns[j] = ((ns[j].toNat : Nat) : Int) := by omega
        have hlen := nums_len ha
        rw [List.length_take] at hlen
        rw [e]
        refine putA_ok st.sep (by omega) (by omega) r fun s2 tag2 σ2 st2 r2 => ?_
        rw [Pa.inc j (by omega)]
        have et : ns.take (j + 1) = ns.take j ++ [ns[j]] := by rw [List.take_add_one, List.getElem?_eq_getElem hjl]; rfl
        refine ih (j + 1) s2 tag2 σ2 (by omega) ?_ (st.trans st2) ?_
        · rw [et, List.all_append, ha]; simpa using c
        · rw [et]
          unfold nums at r2 ⊢
          rw [List.flatMap_append, List.flatMap_singleton]; exact r2
      · rw [if_pos (by simpa using c)]
        refine hno ?_ tag1 σ1 st
        rw [← Bool.not_eq_true, List.all_eq_true]
        exact fun h => c (h _ (List.getElem_mem hjl))
theorem read_drop {s : Sl} {l : Str} (h : SL.Read ro σ s (l.map vU)) (hc : s.len ≤ s.cap) {e : Nat} (he : e ≤ l.length) : SL.Read ro σ ⟨cutA s.a e s.cap 1, s.len - e, s.cap - e⟩ ((l.drop e).map vU) := by
  obtain ⟨h1, h2, h3⟩ := h
  rw [List.length_map] at h1
  refine ⟨by simp only; rw [h1]; simp, fun ha => ?_, fun p hp i w hw => ?_⟩
  · unfold cutA at ha
    simp only at ha
    have hn : s.a = none := by
      split at ha
      · exact ha
      · exact Option.map_eq_none_iff.1 ha
    have := h2 hn
    simp at this; subst this; simp
  · unfold cutA at hp
    simp only at hp
    have hi : i < (l.drop e).length := by
      rcases Nat.lt_or_ge i (l.drop e).length with h | h
      · exact h
      · rw [List.getElem?_eq_none (by simpa using h)] at hw; cases hw
    rw [List.length_drop] at hi
    split at hp
    · omega
    · obtain ⟨p', hp', rfl⟩ := Option.map_eq_some_iff.1 hp
      have hw' : (l.map vU)[e + i]? = some w := by
        rw [← hw, List.map_drop, List.getElem?_drop]
      have := h3 p' hp' (e + i) w hw'
      have e1 : (p'.add (e * 1)).add i = p'.add (e + i) := by
        obtain ⟨b, o, sp⟩ := p'
        cases e with
        | zero => rw [Nat.zero_mul, Nat.zero_add]; rfl
        | succ e => rw [Nat.mul_one, show (⟨b, o, sp⟩ : Addr).add (e + 1) = ⟨b, o + (e + 1), none⟩ from rfl, add_add, show (⟨b, o, sp⟩ : Addr).add (e + 1 + i) = ⟨b, o + (e + 1 + i), none⟩ from by rw [show e + 1 + i = (e + i) + 1 by omega]; rfl, Nat.add_assoc]
      rw [e1]; exact this
theorem read_take {s : Sl} {l : Str} (h : SL.Read ro σ s (l.map vU)) {n c : Nat} (hn : n ≤ l.length) : SL.Read ro σ ⟨s.a, n, c⟩ ((l.take n).map vU) := by
  obtain ⟨h1, h2, h3⟩ := h
  refine ⟨by simp; omega, fun ha => ?_, fun p hp i w hw => ?_⟩
  · have := h2 ha
    simp at this; subst this; simp
  · refine h3 p hp i w ?_
    rw [← hw, List.map_take, List.getElem?_take]
    have hi : i < n := by
      rcases Nat.lt_or_ge i ((l.take n).map vU).length with h | h
      · simp at h; omega
      · rw [List.getElem?_eq_none h] at hw; cases hw
    rw [if_pos hi]
theorem unframe_ok {s : Sl} {l : Str} {k : Nat} {Q : Sl → Int → Int → AH → Prop} (hs : SL.Sep ro σ) (hcap : s.len ≤ s.cap) (hk : k ≤ l.length) (hl : l.length ≤ 140737488355328) (hx : ∀ tag' σ', Step [] ro tag σ tag' σ' → SL.Read ro σ' s (l.map vU))
    (hno : (unframe (l.drop k)).2.2 ≠ 0 → ∀ tag' σ', (∀ R, Step R ro tag σ tag' σ') → Q ⟨none, 0, 0⟩ 0 (unframe (l.drop k)).2.2 σ')
    (hok : (unframe (l.drop k)).2.2 = 0 → ∀ s' tag' σ', (∀ R, Step R ro tag σ tag' σ') → Row tag' σ' 6 5 s' ((unframe (l.drop k)).1.map vU) → Q s' ((k + (unframe (l.drop k)).2.1 : Nat) : Int) 0 σ') : c_wire_Unframe B ro s (k : Int) σ Q := by
  refine wire_Unframe_ok fun _ => ?_
  unfold f_wire_Unframe
  have h0 := hx tag σ (Step.refl hs)
  have hln : s.len = l.length := by rw [h0.1, List.length_map]
  have hdl : (l.drop k).length = l.length - k := List.length_drop ..
  rw [if_neg (by omega), w64_eq (n := (s.len : Int) - (k : Int)) (by omega) (by omega)]
  unfold unframe at hno hok
  by_cases c1 : (l.drop k).length < 8
  · rw [if_pos (by omega)]
    rw [if_pos c1] at hno
    exact hno (by decide) tag σ fun R => Step.refl hs
  rw [if_neg (by omega)]
  rw [if_neg c1] at hno hok
  refine ⟨⟨trivial, by omega, by simp only [cutHi]; omega⟩, ?_⟩
  rw [Int.toNat_natCast]
  refine value_ok (read_drop h0 hcap hk) (by omega) ?_
  have hv4 : value (l.drop k) < 4294967296 := by
    match l.drop k with
    | a :: b :: c :: d :: r => unfold value; have := u8_lt a; have := u8_lt b; have := u8_lt c; have := u8_lt d; simp only; omega
    | [] => decide
    | [a] => show (0 : Nat) < _; decide
    | [a, b] => show (0 : Nat) < _; decide
    | [a, b, c] => show (0 : Nat) < _; decide
  obtain ⟨n, hn⟩ : ∃ n, value (l.drop k) = n := ⟨_, rfl⟩
  rw [hn] at hno hok hv4 ⊢
  by_cases c2 : 65536 < n
  · rw [if_pos (by omega)]
    rw [if_pos c2] at hno
    exact hno (by decide) tag σ fun R => Step.refl hs
  rw [if_neg (by omega)]
  rw [if_neg c2] at hno hok
  rw [w64_eq (n := (s.len : Int) - (k : Int) - 8) (by omega) (by omega)]
  by_cases c3 : (l.drop k).length - 8 < n
  · rw [if_pos (by omega)]
    rw [if_pos c3] at hno
    exact hno (by decide) tag σ fun R => Step.refl hs
  rw [if_neg (by omega)]
  rw [if_neg c3] at hno hok
  rw [w64_eq (n := (k : Int) + 8) (by omega) (by omega), w64_eq (n := (k : Int) + 8 + (n : Int)) (by omega) (by omega), w64_eq (n := (k : Int) + 4) (by omega) (by omega)]
  refine ⟨⟨⟨by omega, by omega⟩, by omega, by simp only [cutHi]; omega⟩, ?_⟩
  rw [show Int.toNat ((k : Int) + 8) = k + 8 by omega, show Int.toNat ((k : Int) + 8 + (n : Int)) = k + 8 + n by omega, show Int.toNat ((k : Int) + 4) = k + 4 by omega]
  have ed8 : (l.drop k).drop 8 = l.drop (k + 8) := by rw [List.drop_drop]
  have ed4 : (l.drop k).drop 4 = l.drop (k + 4) := by rw [List.drop_drop]
  rw [ed8, ed4] at hno hok
  have hr8 := read_take (read_drop h0 hcap (e := k + 8) (by omega)) (n := n) (c := s.cap - (k + 8)) (by rw [List.length_drop]; omega)
  simp only at hr8
  rw [show k + 8 + n - (k + 8) = n by omega]
  have hpl : ((l.drop (k + 8)).take n).length = n := by rw [List.length_take, List.length_drop]; omega
  obtain ⟨p, hp⟩ : ∃ p, (l.drop (k + 8)).take n = p := ⟨_, rfl⟩
  rw [hp] at hno hok hr8 hpl
  refine clone_ok (tag := tag) hr8 hs (by rw [List.length_map]; omega) (by simp [storable]) fun s1 tag1 σ1 st1 r1 => ?_
  refine ⟨⟨trivial, by omega, by simp only [cutHi]; omega⟩, ?_⟩
  refine four_ok (tag := tag1) (q := 0) (by omega) fun s2 tag2 σ2 st2 e2 r2 => ?_
  have r1' := r1.keep (st2 []) (by simp)
  refine awp_appendN r2 (st2 []).sep (r1'.read (st2 []).sep) u30 ty5 rfl (by simp [storable]) (by simp [four_len]; omega) (by decide) fun s3 tag3 σ3 st3 r3 => ?_
  refine ⟨s3, rfl, ?_⟩
  rw [← List.map_append] at r3
  have st3' := fun R => st3 R (.inl e2)
  have sta : ∀ R, Step R ro tag σ tag3 σ3 := fun R => (st1 R).trans ((st2 R).trans (st3' R))
  refine sum_ok (r3.read (st3' []).sep) (by simp [four_len]; omega) ?_
  have h3 := hx tag3 σ3 (sta [])
  refine value_ok (read_drop h3 hcap (e := k + 4) (by omega)) (by rw [List.length_drop]; omega) ?_
  by_cases c4 : crc (four n ++ p) = value (l.drop (k + 4))
  · rw [if_neg (by rw [c4]; simp)]
    rw [if_pos c4] at hok
    rw [show ((k : Int) + 8 + (n : Int)) = ((k + (8 + n) : Nat) : Int) by omega]
    exact hok rfl s1 tag3 σ3 sta (r1'.keep (st3' []) (by simp))
  · rw [if_pos (by omega)]
    rw [if_neg c4] at hno
    exact hno (by decide) tag3 σ3 sta
end Go.Proofs.YtfobjidchipdaaaGreatDoor.Wi

/- Functions as predicate transformers, and the proofs that the code does what they tell: printed by wip/tools/gen.py. -/
namespace Go.Proofs.YtfobjidchipdaaaGreatDoor.G
open Go Go.Proofs.YtfobjidchipdaaaGreatDoor.SL
set_option linter.unusedVariables false
set_option linter.unusedSimpArgs false

def j19_snap_Save (B : World) (ro : AH) (Q : Int → AH → Prop) (σ : AH) : Prop :=
 Q 0 σ

def j26_snap_Save (B : World) (ro : AH) (a1 : ByteArray) (x4_1 : Nat) (x13_8 : Nat) (x101_23 : Sl) (x103_25 : Int) (Q : Int → AH → Prop) (Y24 : (Int) → AH → Prop) (σ : AH) : Prop :=
 Y24 (IntKind.i64.wrap (x103_25 + 1)) σ

def j30_snap_Save (B : World) (ro : AH) (a1 : ByteArray) (x4_1 : Nat) (x13_8 : Nat) (x101_23 : Sl) (x103_25 : Int) (x106_28 : ByteArray) (Q : Int → AH → Prop) (Y24 : (Int) → AH → Prop) (x114_31 : Bool) (σ : AH) : Prop :=
 if x114_31 = true then
  ∃ (x115_32 : Option Addr), acell ro σ ⟨x4_1, 0, none⟩ = some (.pointer x115_32) ∧
  nw ro σ (.cells #[.string x106_28] 9) fun x117_33 σ =>
  c_disk_Disk_Remove B ro x115_32 (⟨some ⟨x117_33, 0, none⟩, 1, 1⟩ : Sl) σ fun x118_34 σ =>
  j26_snap_Save B ro a1 x4_1 x13_8 x101_23 x103_25 Q Y24 σ
 else
 j26_snap_Save B ro a1 x4_1 x13_8 x101_23 x103_25 Q Y24 σ

def l24_snap_Save (B : World) (ro : AH) (a1 : ByteArray) (x4_1 : Nat) (x13_8 : Nat) (x101_23 : Sl) (Q : Int → AH → Prop) : (Int) → AH → ((Int) → AH → Prop) → Prop := fun x103_25 σ Y24 =>
 if x103_25 < (x101_23.len : Int) then
  ∃ p105_27 : Addr, x101_23.a = some p105_27 ∧ (0 : Int) ≤ x103_25 ∧ x103_25 < (x101_23.len : Int) ∧
  ∃ (x106_28 : ByteArray), acell ro σ (p105_27.add (Int.toNat x103_25 * 1)) = some (.string x106_28) ∧
  ∃ (x108_29 : ByteArray), acell ro σ ⟨x13_8, 0, none⟩ = some (.string x108_29) ∧
  if ¬ (x106_28 = x108_29) then
   c_snap_isData B ro a1 x106_28 σ fun x113_35 σ =>
   j30_snap_Save B ro a1 x4_1 x13_8 x101_23 x103_25 x106_28 Q Y24 x113_35 σ
  else
  j30_snap_Save B ro a1 x4_1 x13_8 x101_23 x103_25 x106_28 Q Y24 false σ
 else
 j19_snap_Save B ro Q σ

def j10_snap_Save (B : World) (ro : AH) (a1 : ByteArray) (x4_1 : Nat) (x13_8 : Nat) (x14_9 : Nat) (Q : Int → AH → Prop) (σ : AH) : Prop :=
 ∃ (x87_11 : Option Addr), acell ro σ ⟨x4_1, 0, none⟩ = some (.pointer x87_11) ∧
 ∃ (x88_12 : ByteArray), acell ro σ ⟨x13_8, 0, none⟩ = some (.string x88_12) ∧
 ∃ (x89_13 : ByteArray), acell ro σ ⟨x14_9, 0, none⟩ = some (.string x89_13) ∧
 nw ro σ (.cells #[.string x88_12, .string x89_13] 9) fun x90_14 σ =>
 c_disk_Disk_Sync B ro x87_11 (⟨some ⟨x90_14, 0, none⟩, 2, 2⟩ : Sl) σ fun x91_15 σ =>
 ∃ (x92_16 : Option Addr), acell ro σ ⟨x4_1, 0, none⟩ = some (.pointer x92_16) ∧
 ∃ (x93_17 : ByteArray), acell ro σ ⟨x14_9, 0, none⟩ = some (.string x93_17) ∧
 a1.size + (⟨#[46, 109, 97, 110]⟩ : ByteArray).size ≤ 9223372036854775807 ∧
 c_disk_Disk_Rename B ro x92_16 x93_17 (a1 ++ (⟨#[46, 109, 97, 110]⟩ : ByteArray)) σ fun x96_18 σ =>
 ∃ (x97_20 : Option Addr), acell ro σ ⟨x4_1, 0, none⟩ = some (.pointer x97_20) ∧
 ∃ p98_21 : Addr, x97_20 = some p98_21 ∧
 ∃ (x100_22 : Option Nat), acell ro σ p98_21 = some (.map x100_22) ∧
 c_disk_table_Files B ro x100_22 σ fun x101_23 σ =>
 lfpD (l24_snap_Save B ro a1 x4_1 x13_8 x101_23 Q ) (0) σ

def l41_snap_Save (B : World) (ro : AH) (a1 : ByteArray) (x4_1 : Nat) (x13_8 : Nat) (x14_9 : Nat) (x69_40 : Nat) (Q : Int → AH → Prop) : (Int) → AH → ((Int) → AH → Prop) → Prop := fun x71_42 σ Y41 =>
 if x71_42 < ((⟨some ⟨x69_40, 0, none⟩, 2, 2⟩ : Sl).len : Int) then
  ∃ p73_43 : Addr, (⟨some ⟨x69_40, 0, none⟩, 2, 2⟩ : Sl).a = some p73_43 ∧ (0 : Int) ≤ x71_42 ∧ x71_42 < ((⟨some ⟨x69_40, 0, none⟩, 2, 2⟩ : Sl).len : Int) ∧
  ∃ (x74_44a : ByteArray) (x74_44b : Sl), cellsAt ro σ (p73_43.add (Int.toNat x71_42 * 2)) 0 [.string x74_44a, Sl.v x74_44b] ∧
  nw ro σ (.cells #[.string ByteArray.empty, Sl.v (⟨none, 0, 0⟩ : Sl)] 85) fun x17_45 σ =>
  stN ⟨x17_45, 0, none⟩ (fun σ =>
   ∃ (x75_46 : Option Addr), acell ro σ ⟨x4_1, 0, none⟩ = some (.pointer x75_46) ∧
   ∃ (x77_47 : ByteArray), acell ro σ ⟨x17_45, 0, none⟩ = some (.string x77_47) ∧
   ∃ (x79_48 : Sl), acell ro σ ((⟨x17_45, 0, none⟩ : Addr).add 1) = some (Sl.v x79_48) ∧
   c_disk_Disk_Append B ro x75_46 x77_47 x79_48 σ fun x80_49 σ =>
   if ¬ (x80_49 = 0) then
    c_snap_Save_c1 B ro ⟨x13_8, 0, none⟩ ⟨x14_9, 0, none⟩ ⟨x4_1, 0, none⟩ σ fun σ =>
    Q x80_49 σ
   else
   Y41 (IntKind.i64.wrap (x71_42 + 1)) σ) [.string x74_44a, Sl.v x74_44b] 0 σ
 else
 j10_snap_Save B ro a1 x4_1 x13_8 x14_9 Q σ

def f_snap_Save (B : World) (ro : AH) (a0 : Option Addr) (a1 : ByteArray) (a2 : Int) (a3 : Sl) (σ : AH) (Q : Int → AH → Prop) : Prop :=
 nw ro σ (.cells #[.pointer a0] 26) fun x4_1 σ =>
 ∃ (x22_2 : Option Addr), acell ro σ ⟨x4_1, 0, none⟩ = some (.pointer x22_2) ∧
 c_snap_Load B ro x22_2 a1 σ fun x24_3 x24_4 x24_5 x24_6 σ =>
 if ¬ (x24_6 = 0) then
  Q x24_6 σ
 else
 if (a2 < 0) ∨ (4611686018427387903 < a2) then
  Q 10 σ
 else
 if 1048576 < (a3.len : Int) then
  Q 14 σ
 else
 if (x24_5 = true) ∧ (a2 ≤ x24_3) then
  Q 41 σ
 else
 c_snap_dataFile B ro a1 a2 σ fun x53_7 σ =>
 a1.size + (⟨#[46, 116, 109, 112]⟩ : ByteArray).size ≤ 9223372036854775807 ∧
 nw ro σ (.cells #[.string ByteArray.empty] 9) fun x13_8 σ =>
 nw ro σ (.cells #[.string ByteArray.empty] 9) fun x14_9 σ =>
 stN ⟨x13_8, 0, none⟩ (fun σ =>
  stN ⟨x14_9, 0, none⟩ (fun σ =>
   c_snap_Save_c1 B ro ⟨x13_8, 0, none⟩ ⟨x14_9, 0, none⟩ ⟨x4_1, 0, none⟩ σ fun σ =>
   lent σ fun ψ σ =>
    ∃ (x59_36 : ByteArray), acell (join ro ψ) (fun _ => none) ⟨x13_8, 0, none⟩ = some (.string x59_36) ∧
    ∃ (x62_37 : ByteArray), acell (join ro ψ) (fun _ => none) ⟨x14_9, 0, none⟩ = some (.string x62_37) ∧
    c_snap_digestOf B (join ro ψ) a3 σ fun x64_38a x64_38b σ =>
    c_snap_manifest_bytes B (join ro ψ) x64_38a x64_38b a2 σ fun x67_39 σ =>
    nw (join ro ψ) σ (.cells #[.string x59_36, Sl.v a3, .string x62_37, Sl.v x67_39] 85) fun x69_40 σ =>
    (Disj ψ σ → (fun σ => 
     lfpD (l41_snap_Save B ro a1 x4_1 x13_8 x14_9 x69_40 Q ) (0) σ) (join ψ σ))) [.string (a1 ++ (⟨#[46, 116, 109, 112]⟩ : ByteArray))] 0 σ) [.string x53_7] 0 σ

set_option maxRecDepth 100000 in
set_option maxHeartbeats 4000000 in
theorem snap_Save_ok {B : World} {ro : AH} {a0 : Option Addr} {a1 : ByteArray} {a2 : Int} {a3 : Sl} {σ : AH} {Q : Int → AH → Prop} (h : Sep ro σ → f_snap_Save B ro a0 a1 a2 a3 σ Q) : c_snap_Save B ro a0 a1 a2 a3 σ Q := by
  refine ACalls.of_sep fun hsep => ?_
  replace h := h hsep
  refine ACalls.of_body (args := [.pointer a0, .string a1, .int .i64 a2, Sl.v a3]) Tryz.func11 rfl (by rw [Tryz.ntmps11]; simp) ?_
  rw [Tryz.ntmps11]
  unfold f_snap_Save at h
  refine AW.seq ?_
  refine AW.reg ?_
  refine Ls rfl rfl (X_new (A_box rfl rfl) fun x4_1 g1 g2 => ?_)
  replace h := h x4_1 g1 g2
  refine Lp (V_asg rfl rfl) rfl rfl ?_
  refine Lnil ?_
  refine thenN ?_
  refine AW.seq ?_
  refine AW.reg ?_
  obtain ⟨x22_2, hc, h⟩ := h
  refine Ls rfl rfl (X_ld rfl Tryz.underlying26 rfl rfl hc ?_)
  refine Lp (V_move rfl rfl) rfl rfl ?_
  refine Ls rfl rfl (X_call rfl Tryz.func13 rfl rfl rfl (ACalls.mono h ?_))
  rintro v σ ⟨x24_3, x24_4, x24_5, x24_6, rfl, h⟩
  refine Lp (V_move rfl rfl) rfl rfl ?_
  refine Lp (V_ext rfl rfl rfl) rfl rfl ?_
  refine Lp (V_ext rfl rfl rfl) rfl rfl ?_
  refine Lp (V_ext rfl rfl rfl) rfl rfl ?_
  refine Lp (V_ext rfl rfl rfl) rfl rfl ?_
  refine Lp (V_asg rfl rfl) rfl rfl ?_
  refine Lp (V_asg rfl rfl) rfl rfl ?_
  refine Lp (V_asg rfl rfl) rfl rfl ?_
  refine Lp (V_asg rfl rfl) rfl rfl ?_
  refine Lnil ?_
  refine thenN ?_
  refine AW.seq ?_
  refine AW.block ?_
  refine AW.seq ?_
  refine AW.reg ?_
  refine Lp (V_move rfl rfl) rfl rfl ?_
  refine Lp (V_neq rfl rfl rfl) rfl rfl ?_
  refine Lp (V_asg rfl rfl) rfl rfl ?_
  refine Lnil ?_
  refine thenN ?_
  refine AW.iff rfl (bnot_iff decide_eq_true_iff) h (fun h => ?_) (fun h => ?_)
  · refine AW.seq ?_
    refine AW.reg ?_
    refine Lp (V_move rfl rfl) rfl rfl ?_
    refine Lp (V_asg rfl rfl) rfl rfl ?_
    refine Lnil ?_
    refine thenN ?_
    refine AW.ret ?_
    refine blockR ?_
    refine thenR ?_
    exact bR1 Tryz.results11 rfl ⟨_, rfl, h⟩
  refine AW.seq ?_
  refine AW.reg ?_
  refine Lp (V_move rfl rfl) rfl rfl ?_
  refine Lp (V_lss rfl rfl rfl) rfl rfl ?_
  refine Lp (V_move rfl rfl) rfl rfl ?_
  refine Lsplit 3 (decide (a2 < 0)) [(1, .string a1), (2, .int .i64 a2), (3, Sl.v a3), (4, .pointer (some ⟨x4_1, 0, none⟩)), (9, .int .i64 x24_3), (11, .bool x24_5), (39, .bool ((decide (a2 < 0)) || (decide (4611686018427387903 < a2))))] ?_ ?_ ?_
  · intro e2 hk2
    refine Ln rfl rfl rfl rfl (.inl (by rw [e2]; rfl)) ?_
    refine Ln rfl rfl rfl rfl (.inl (by rw [e2]; rfl)) ?_
    refine Lp (V_pickT rfl (evb e2) rfl) rfl rfl ?_
    exact hk2 _ (FrLe.cons rfl (FrLe.cons rfl (FrLe.cons rfl (FrLe.cons rfl (FrLe.cons rfl (FrLe.cons rfl (FrLe.cons (by rw [e2]; rfl) (FrLe.nil _))))))))
  · intro e2 hk2
    refine Lypb (V_move rfl rfl) rfl rfl rfl rfl e2 ?_
    refine Lypb (V_gtr rfl rfl rfl) rfl rfl rfl rfl e2 ?_
    refine Lp (V_pickF rfl (evb e2) rfl) rfl rfl ?_
    exact hk2 _ (FrLe.cons rfl (FrLe.cons rfl (FrLe.cons rfl (FrLe.cons rfl (FrLe.cons rfl (FrLe.cons rfl (FrLe.cons (by rw [e2]; rfl) (FrLe.nil _))))))))
  intro fr hl
  refine Lfr hl ?_
  refine Lp (V_asg rfl rfl) rfl rfl ?_
  refine Lnil ?_
  refine thenN ?_
  refine AW.iff rfl (bor_iff decide_eq_true_iff decide_eq_true_iff) h (fun h => ?_) (fun h => ?_)
  · refine AW.seq ?_
    refine AW.reg ?_
    refine Lp (V_asg rfl rfl) rfl rfl ?_
    refine Lnil ?_
    refine thenN ?_
    refine AW.ret ?_
    refine blockR ?_
    refine thenR ?_
    exact bR1 Tryz.results11 rfl ⟨_, rfl, h⟩
  refine AW.seq ?_
  refine AW.reg ?_
  refine Lp (V_move rfl rfl) rfl rfl ?_
  refine Lp (V_lenL rfl rfl Tryz.underlying22 rfl rfl) rfl rfl ?_
  refine Lp (V_gtr rfl rfl rfl) rfl rfl ?_
  refine Lp (V_asg rfl rfl) rfl rfl ?_
  refine Lnil ?_
  refine thenN ?_
  refine AW.iff rfl decide_eq_true_iff h (fun h => ?_) (fun h => ?_)
  · refine AW.seq ?_
    refine AW.reg ?_
    refine Lp (V_asg rfl rfl) rfl rfl ?_
    refine Lnil ?_
    refine thenN ?_
    refine AW.ret ?_
    refine blockR ?_
    refine thenR ?_
    exact bR1 Tryz.results11 rfl ⟨_, rfl, h⟩
  refine AW.seq ?_
  refine AW.reg ?_
  refine Lp (V_move rfl rfl) rfl rfl ?_
  refine Lp (V_move rfl rfl) rfl rfl ?_
  refine Lsplit 4 x24_5 [(1, .string a1), (2, .int .i64 a2), (3, Sl.v a3), (4, .pointer (some ⟨x4_1, 0, none⟩)), (50, .bool (x24_5 && (decide (a2 ≤ x24_3))))] ?_ ?_ ?_
  · intro e1 hk1
    refine Lypb (V_move rfl rfl) rfl rfl rfl rfl e1 ?_
    refine Lypb (V_move rfl rfl) rfl rfl rfl rfl e1 ?_
    refine Lypb (V_geq rfl rfl rfl) rfl rfl rfl rfl e1 ?_
    refine Lp (V_pickT rfl (evb e1) rfl) rfl rfl ?_
    exact hk1 _ (FrLe.cons rfl (FrLe.cons rfl (FrLe.cons rfl (FrLe.cons rfl (FrLe.cons (by rw [e1]; rfl) (FrLe.nil _))))))
  · intro e1 hk1
    refine Ln rfl rfl rfl rfl (.inl (by rw [e1]; rfl)) ?_
    refine Ln rfl rfl rfl rfl (.inl (by rw [e1]; rfl)) ?_
    refine Ln rfl rfl rfl rfl (.inl (by rw [e1]; rfl)) ?_
    refine Lp (V_pickF rfl (evb e1) rfl) rfl rfl ?_
    exact hk1 _ (FrLe.cons rfl (FrLe.cons rfl (FrLe.cons rfl (FrLe.cons rfl (FrLe.cons (by rw [e1]; rfl) (FrLe.nil _))))))
  intro fr hl
  refine Lfr hl ?_
  refine Lp (V_asg rfl rfl) rfl rfl ?_
  refine Lnil ?_
  refine thenN ?_
  refine AW.iff rfl (band_iff Iff.rfl decide_eq_true_iff) h (fun h => ?_) (fun h => ?_)
  · refine AW.seq ?_
    refine AW.reg ?_
    refine Lp (V_asg rfl rfl) rfl rfl ?_
    refine Lnil ?_
    refine thenN ?_
    refine AW.ret ?_
    refine blockR ?_
    refine thenR ?_
    exact bR1 Tryz.results11 rfl ⟨_, rfl, h⟩
  refine AW.skip ?_
  refine blockN ?_
  refine thenN ?_
  refine AW.seq ?_
  refine AW.reg ?_
  refine Lp (V_move rfl rfl) rfl rfl ?_
  refine Lp (V_move rfl rfl) rfl rfl ?_
  refine Ls rfl rfl (X_call rfl Tryz.func38 rfl rfl rfl (ACalls.mono h ?_))
  rintro v σ ⟨x53_7, rfl, h⟩
  refine Lp (V_move rfl rfl) rfl rfl ?_
  obtain ⟨hc, h⟩ := h
  refine Lp (V_cat rfl rfl rfl hc) rfl rfl ?_
  refine Ls rfl rfl (X_new (A_alloc rfl ty9) fun x13_8 g1 g2 => ?_)
  replace h := h x13_8 g1 g2
  refine Ls rfl rfl (X_new (A_alloc rfl ty9) fun x14_9 g1 g2 => ?_)
  replace h := h x14_9 g1 g2
  refine Ls rfl rfl (X_st rfl ty9 rfl rfl rfl rfl (stN_mono h fun σ h => ?_))
  refine Ls rfl rfl (X_st rfl ty9 rfl rfl rfl rfl (stN_mono h fun σ h => ?_))
  refine Lnil ?_
  refine thenN ?_
  refine AW.seq ?_
  refine AW.reg ?_
  refine Lp (V_mkf rfl rfl rfl) rfl rfl ?_
  refine Lp (V_asg rfl rfl) rfl rfl ?_
  refine Lnil ?_
  refine thenN ?_
  refine AW.seq ?_
  refine AW.reg ?_
  refine Lp (V_move rfl rfl) rfl rfl ?_
  refine Ls rfl rfl (X_callv rfl rfl Tryz.func39 rfl rfl rfl (ACalls.mono h ?_))
  rintro v σ ⟨rfl, h⟩
  refine Lnil ?_
  refine thenN ?_
  refine AW.seqJ (fun fr σ => FrLe [(1, .string a1), (4, .pointer (some ⟨x4_1, 0, none⟩)), (13, .pointer (some ⟨x13_8, 0, none⟩)), (14, .pointer (some ⟨x14_9, 0, none⟩))] fr ∧ j10_snap_Save B ro a1 x4_1 x13_8 x14_9 Q σ) ?_ ?_
  rotate_left
  · refine AW.seq ?_
    refine AW.drawnL (fun i => ([0, 0, 0, 0, 0, 2, 0, 0, 2, 0, 1, 0, 0] : List Nat).getD i 2) [] [0, 1, 2, 3, 4, 6, 12, 5, 7, 8, 9, 10, 11] Tryz.mixed h (by decide +kernel) ?_
    clear h
    intro ψ σ h
    obtain ⟨x59_36, hc, h⟩ := h
    refine Dp rfl rfl rfl rfl (V_ld rfl Tryz.underlying9 rfl rfl hc) ?_
    refine Dp rfl rfl rfl rfl (V_move rfl rfl) ?_
    refine Dp rfl rfl rfl rfl (V_bld (vs := [(0, .string x59_36), (1, Sl.v a3)]) (cs := #[.string x59_36, Sl.v a3]) rfl Tryz.underlying85 ty85 pl85 rfl rfl) ?_
    obtain ⟨x62_37, hc, h⟩ := h
    refine Dp rfl rfl rfl rfl (V_ld rfl Tryz.underlying9 rfl rfl hc) ?_
    refine Dp rfl rfl rfl rfl (V_move rfl rfl) ?_
    refine Dp rfl rfl rfl rfl (V_move rfl rfl) ?_
    refine Dp rfl rfl rfl rfl (V_move rfl rfl) ?_
    refine Dg rfl rfl rfl rfl (X_call rfl Tryz.func41 rfl rfl rfl (ACalls.mono h ?_))
    rintro v σ ⟨x64_38a, x64_38b, rfl, h⟩
    refine Dp rfl rfl rfl rfl (V_bld (vs := [(0, .agg #[.int .i64 x64_38a, .int .i64 x64_38b]), (1, .int .i64 a2)]) (cs := #[.int .i64 x64_38a, .int .i64 x64_38b, .int .i64 a2]) rfl Tryz.underlying90 ty90 pl90 rfl rfl) ?_
    refine Dg rfl rfl rfl rfl (X_call rfl Tryz.func42 rfl rfl rfl (ACalls.mono h ?_))
    rintro v σ ⟨x67_39, rfl, h⟩
    refine Dp rfl rfl rfl rfl (V_bld (vs := [(0, .string x62_37), (1, Sl.v x67_39)]) (cs := #[.string x62_37, Sl.v x67_39]) rfl Tryz.underlying85 ty85 pl85 rfl rfl) ?_
    refine Da rfl rfl rfl rfl (A_bsl (vs := [(0, .agg #[.string x59_36, Sl.v a3]), (1, .agg #[.string x62_37, Sl.v x67_39])]) (cs := #[.string x59_36, Sl.v a3, .string x62_37, Sl.v x67_39]) rfl Tryz.underlying92 ty85 (by decide) rfl rfl) fun x69_40 g1 g2 => ?_
    replace h := h x69_40 g1 g2
    refine Dp rfl rfl rfl rfl (V_lenL rfl rfl Tryz.underlying92 rfl rfl) ?_
    refine ⟨_, FrEq.refl _, fun hdj => ?_⟩
    replace h := h hdj
    refine thenN ?_
    refine AW.block ?_
    refine ARound.loop (fr' := [(1, .string a1), (4, .pointer (some ⟨x4_1, 0, none⟩)), (13, .pointer (some ⟨x13_8, 0, none⟩)), (14, .pointer (some ⟨x14_9, 0, none⟩)), (15, (.func (.func 39) #[] #[.pointer (some ⟨x13_8, 0, none⟩), .pointer (some ⟨x14_9, 0, none⟩), .pointer (some ⟨x4_1, 0, none⟩)])), (69, Sl.v (⟨some ⟨x69_40, 0, none⟩, 2, 2⟩ : Sl)), (70, .int .i64 ((⟨some ⟨x69_40, 0, none⟩, 2, 2⟩ : Sl).len : Int)), (71, .int .i64 0)]) ?_ (FrLe.cons rfl (FrLe.cons rfl (FrLe.cons rfl (FrLe.cons rfl (FrLe.cons rfl (FrLe.cons rfl (FrLe.cons rfl (FrLe.cons rfl (FrLe.nil _)))))))))
    refine h (fun x71_42 σ => ARound _ _ _ _ _ _ [(1, .string a1), (4, .pointer (some ⟨x4_1, 0, none⟩)), (13, .pointer (some ⟨x13_8, 0, none⟩)), (14, .pointer (some ⟨x14_9, 0, none⟩)), (15, (.func (.func 39) #[] #[.pointer (some ⟨x13_8, 0, none⟩), .pointer (some ⟨x14_9, 0, none⟩), .pointer (some ⟨x4_1, 0, none⟩)])), (69, Sl.v (⟨some ⟨x69_40, 0, none⟩, 2, 2⟩ : Sl)), (70, .int .i64 ((⟨some ⟨x69_40, 0, none⟩, 2, 2⟩ : Sl).len : Int)), (71, .int .i64 x71_42)] σ) ?_
    rintro x71_42 σ Y41 hY41 h
    show AW _ _ _ _ _ _ _ _
    unfold l41_snap_Save at h
    refine AW.seq ?_
    refine AW.reg ?_
    refine Lp (V_lss rfl rfl rfl) rfl rfl ?_
    refine Lnil ?_
    refine thenN ?_
    refine AW.seq ?_
    refine AW.iff rfl decide_eq_true_iff h (fun h => ?_) (fun h => ?_)
    rotate_left
    · refine AW.exit ?_
      refine thenE ?_
      refine thenE ?_
      refine blockE ?_
      refine thenN ?_
      exact ⟨(FrLe.cons rfl (FrLe.cons rfl (FrLe.cons rfl (FrLe.cons rfl (FrLe.nil _))))), h⟩
    refine AW.skip ?_
    refine thenN ?_
    refine AW.seq ?_
    refine AW.block ?_
    refine AW.seq ?_
    refine AW.reg ?_
    obtain ⟨p73_43, ha, h0, h1, h⟩ := h
    refine Lp (V_ixA rfl Tryz.underlying92 ty85 (ixL rfl ha) rfl h0 h1) rfl rfl ?_
    obtain ⟨x74_44a, x74_44b, hc, h⟩ := h
    refine Ls rfl rfl (X_lda rfl Tryz.underlying85 rfl ty85 rfl hc ?_)
    refine Ls rfl rfl (X_new (A_alloc rfl ty85) fun x17_45 g1 g2 => ?_)
    replace h := h x17_45 g1 g2
    refine Ls rfl rfl (X_st rfl ty85 rfl rfl rfl rfl (stN_mono h fun σ h => ?_))
    refine Lnil ?_
    refine thenN ?_
    refine AW.seq ?_
    refine AW.reg ?_
    obtain ⟨x75_46, hc, h⟩ := h
    refine Ls rfl rfl (X_ld rfl Tryz.underlying26 rfl rfl hc ?_)
    refine Lp (V_fld rfl Tryz.underlying85 rfl ty9 (by decide) rfl) rfl rfl ?_
    obtain ⟨x77_47, hc, h⟩ := h
    refine Ls rfl rfl (X_ld rfl Tryz.underlying9 rfl rfl hc ?_)
    refine Lp (V_fld rfl Tryz.underlying85 rfl ty22 (by decide) rfl) rfl rfl ?_
    obtain ⟨x79_48, hc, h⟩ := h
    refine Ls rfl rfl (X_ld rfl Tryz.underlying22 rfl rfl hc ?_)
    refine Ls rfl rfl (X_call rfl Tryz.func43 rfl rfl rfl (ACalls.mono h ?_))
    rintro v σ ⟨x80_49, rfl, h⟩
    refine Lp (V_asg rfl rfl) rfl rfl ?_
    refine Lnil ?_
    refine thenN ?_
    refine AW.seq ?_
    refine AW.reg ?_
    refine Lp (V_move rfl rfl) rfl rfl ?_
    refine Lp (V_neq rfl rfl rfl) rfl rfl ?_
    refine Lnil ?_
    refine thenN ?_
    refine AW.iff rfl (bnot_iff decide_eq_true_iff) h (fun h => ?_) (fun h => ?_)
    · refine AW.seq ?_
      refine AW.reg ?_
      refine Lp (V_move rfl rfl) rfl rfl ?_
      refine Ls rfl rfl (X_callv rfl rfl Tryz.func39 rfl rfl rfl (ACalls.mono h ?_))
      rintro v σ ⟨rfl, h⟩
      refine Lnil ?_
      refine thenN ?_
      refine AW.seq ?_
      refine AW.reg ?_
      refine Lp (V_move rfl rfl) rfl rfl ?_
      refine Lp (V_asg rfl rfl) rfl rfl ?_
      refine Lnil ?_
      refine thenN ?_
      refine AW.ret ?_
      refine blockR ?_
      refine thenR ?_
      refine thenR ?_
      refine blockR ?_
      refine thenR ?_
      exact bR1 Tryz.results11 rfl ⟨_, rfl, h⟩
    refine AW.skip ?_
    refine blockN ?_
    refine thenN ?_
    refine AW.reg ?_
    refine Lp (V_add rfl rfl rfl) rfl rfl ?_
    refine Lp (V_move rfl rfl) rfl rfl ?_
    refine Lnil ?_
    refine thenN ?_
    refine ARound.head (fr' := [(1, .string a1), (4, .pointer (some ⟨x4_1, 0, none⟩)), (13, .pointer (some ⟨x13_8, 0, none⟩)), (14, .pointer (some ⟨x14_9, 0, none⟩)), (15, (.func (.func 39) #[] #[.pointer (some ⟨x13_8, 0, none⟩), .pointer (some ⟨x14_9, 0, none⟩), .pointer (some ⟨x4_1, 0, none⟩)])), (69, Sl.v (⟨some ⟨x69_40, 0, none⟩, 2, 2⟩ : Sl)), (70, .int .i64 ((⟨some ⟨x69_40, 0, none⟩, 2, 2⟩ : Sl).len : Int)), (71, .int .i64 (IntKind.i64.wrap (x71_42 + 1)))]) ?_ (FrLe.cons rfl (FrLe.cons rfl (FrLe.cons rfl (FrLe.cons rfl (FrLe.cons rfl (FrLe.cons rfl (FrLe.cons rfl (FrLe.cons rfl (FrLe.nil _)))))))))
    exact hY41 _ _ h
  rintro fr σ ⟨hl, h⟩
  refine AW.weaken ?_ hl (HLe.refl _)
  unfold j10_snap_Save at h
  refine AW.seq ?_
  refine AW.reg ?_
  obtain ⟨x87_11, hc, h⟩ := h
  refine Ls rfl rfl (X_ld rfl Tryz.underlying26 rfl rfl hc ?_)
  obtain ⟨x88_12, hc, h⟩ := h
  refine Ls rfl rfl (X_ld rfl Tryz.underlying9 rfl rfl hc ?_)
  obtain ⟨x89_13, hc, h⟩ := h
  refine Ls rfl rfl (X_ld rfl Tryz.underlying9 rfl rfl hc ?_)
  refine Ls rfl rfl (X_new (A_bsl (vs := [(0, .string x88_12), (1, .string x89_13)]) (cs := #[.string x88_12, .string x89_13]) rfl Tryz.underlying83 ty9 (by decide) rfl rfl) fun x90_14 g1 g2 => ?_)
  replace h := h x90_14 g1 g2
  refine Ls rfl rfl (X_call rfl Tryz.func44 rfl rfl rfl (ACalls.mono h ?_))
  rintro v σ ⟨x91_15, rfl, h⟩
  refine Lnil ?_
  refine thenN ?_
  refine AW.seq ?_
  refine AW.reg ?_
  obtain ⟨x92_16, hc, h⟩ := h
  refine Ls rfl rfl (X_ld rfl Tryz.underlying26 rfl rfl hc ?_)
  obtain ⟨x93_17, hc, h⟩ := h
  refine Ls rfl rfl (X_ld rfl Tryz.underlying9 rfl rfl hc ?_)
  refine Lp (V_move rfl rfl) rfl rfl ?_
  obtain ⟨hc, h⟩ := h
  refine Lp (V_cat rfl rfl rfl hc) rfl rfl ?_
  refine Ls rfl rfl (X_call rfl Tryz.func45 rfl rfl rfl (ACalls.mono h ?_))
  rintro v σ ⟨x96_18, rfl, h⟩
  refine Lnil ?_
  refine thenN ?_
  refine AW.seqJ (fun fr σ => FrLe [] fr ∧ j19_snap_Save B ro Q σ) ?_ ?_
  · rintro fr σ ⟨hl, h⟩
    refine AW.weaken ?_ hl (HLe.refl _)
    unfold j19_snap_Save at h
    refine AW.seq ?_
    refine AW.reg ?_
    refine Lp (V_asg rfl rfl) rfl rfl ?_
    refine Lnil ?_
    refine thenN ?_
    refine AW.ret ?_
    exact bR1 Tryz.results11 rfl ⟨_, rfl, h⟩
  refine AW.seq ?_
  refine AW.reg ?_
  obtain ⟨x97_20, hc, h⟩ := h
  refine Ls rfl rfl (X_ld rfl Tryz.underlying26 rfl rfl hc ?_)
  obtain ⟨p98_21, hc, h⟩ := h
  refine Lp (V_nil rfl (by rw [← hc]; rfl)) rfl rfl ?_
  refine Lp (V_fld rfl Tryz.underlying39 rfl ty37 (by decide) rfl) rfl rfl ?_
  obtain ⟨x100_22, hc, h⟩ := h
  refine Ls rfl rfl (X_ld rfl Tryz.underlying37 rfl rfl hc ?_)
  refine Ls rfl rfl (X_call rfl Tryz.func46 rfl rfl rfl (ACalls.mono h ?_))
  rintro v σ ⟨x101_23, rfl, h⟩
  refine Lp (V_lenL rfl rfl Tryz.underlying83 rfl rfl) rfl rfl ?_
  refine Lp (V_move rfl rfl) rfl rfl ?_
  refine Lnil ?_
  refine thenN ?_
  refine AW.block ?_
  refine ARound.loop (fr' := [(1, .string a1), (4, .pointer (some ⟨x4_1, 0, none⟩)), (13, .pointer (some ⟨x13_8, 0, none⟩)), (101, Sl.v x101_23), (102, .int .i64 (x101_23.len : Int)), (103, .int .i64 0)]) ?_ (FrLe.cons rfl (FrLe.cons rfl (FrLe.cons rfl (FrLe.cons rfl (FrLe.cons rfl (FrLe.cons rfl (FrLe.nil _)))))))
  refine h (fun x103_25 σ => ARound _ _ _ _ _ _ [(1, .string a1), (4, .pointer (some ⟨x4_1, 0, none⟩)), (13, .pointer (some ⟨x13_8, 0, none⟩)), (101, Sl.v x101_23), (102, .int .i64 (x101_23.len : Int)), (103, .int .i64 x103_25)] σ) ?_
  rintro x103_25 σ Y24 hY24 h
  show AW _ _ _ _ _ _ _ _
  unfold l24_snap_Save at h
  refine AW.seq ?_
  refine AW.reg ?_
  refine Lp (V_lss rfl rfl rfl) rfl rfl ?_
  refine Lnil ?_
  refine thenN ?_
  refine AW.seq ?_
  refine AW.iff rfl decide_eq_true_iff h (fun h => ?_) (fun h => ?_)
  rotate_left
  · refine AW.exit ?_
    refine thenE ?_
    refine thenE ?_
    refine blockE ?_
    refine thenN ?_
    exact ⟨(FrLe.nil _), h⟩
  refine AW.skip ?_
  refine thenN ?_
  refine AW.seqJ (fun fr σ => FrLe [(1, .string a1), (4, .pointer (some ⟨x4_1, 0, none⟩)), (13, .pointer (some ⟨x13_8, 0, none⟩)), (101, Sl.v x101_23), (102, .int .i64 (x101_23.len : Int)), (103, .int .i64 x103_25)] fr ∧ j26_snap_Save B ro a1 x4_1 x13_8 x101_23 x103_25 Q Y24 σ) ?_ ?_
  · rintro fr σ ⟨hl, h⟩
    refine AW.weaken ?_ hl (HLe.refl _)
    unfold j26_snap_Save at h
    refine AW.reg ?_
    refine Lp (V_add rfl rfl rfl) rfl rfl ?_
    refine Lp (V_move rfl rfl) rfl rfl ?_
    refine Lnil ?_
    refine thenN ?_
    refine ARound.head (fr' := [(1, .string a1), (4, .pointer (some ⟨x4_1, 0, none⟩)), (13, .pointer (some ⟨x13_8, 0, none⟩)), (101, Sl.v x101_23), (102, .int .i64 (x101_23.len : Int)), (103, .int .i64 (IntKind.i64.wrap (x103_25 + 1)))]) ?_ (FrLe.cons rfl (FrLe.cons rfl (FrLe.cons rfl (FrLe.cons rfl (FrLe.cons rfl (FrLe.cons rfl (FrLe.nil _)))))))
    exact hY24 _ _ h
  refine AW.block ?_
  refine AW.seq ?_
  refine AW.reg ?_
  obtain ⟨p105_27, ha, h0, h1, h⟩ := h
  refine Lp (V_ixA rfl Tryz.underlying83 ty9 (ixL rfl ha) rfl h0 h1) rfl rfl ?_
  obtain ⟨x106_28, hc, h⟩ := h
  refine Ls rfl rfl (X_ld rfl Tryz.underlying9 rfl rfl hc ?_)
  refine Lp (V_asg rfl rfl) rfl rfl ?_
  refine Lnil ?_
  refine thenN ?_
  refine AW.seq ?_
  refine AW.reg ?_
  refine Lp (V_move rfl rfl) rfl rfl ?_
  obtain ⟨x108_29, hc, h⟩ := h
  refine Ls rfl rfl (X_ld rfl Tryz.underlying9 rfl rfl hc ?_)
  refine Lp (V_neqS rfl rfl rfl) rfl rfl ?_
  refine Lp (V_move rfl rfl) rfl rfl ?_
  refine LsplitJ 4 (!(decide (x106_28 = x108_29))) (bnot_iff decide_eq_true_iff) h (fun fr σ => ∃ (x114_31 : Bool), FrLe [(1, .string a1), (4, .pointer (some ⟨x4_1, 0, none⟩)), (13, .pointer (some ⟨x13_8, 0, none⟩)), (20, .string x106_28), (101, Sl.v x101_23), (102, .int .i64 (x101_23.len : Int)), (103, .int .i64 x103_25), (114, .bool x114_31)] fr ∧ j30_snap_Save B ro a1 x4_1 x13_8 x101_23 x103_25 x106_28 Q Y24 x114_31 σ) ?_ ?_ ?_
  · intro h e3 hk3
    refine Lypb (V_move rfl rfl) rfl rfl rfl rfl e3 ?_
    refine Lypb (V_move rfl rfl) rfl rfl rfl rfl e3 ?_
    refine Lyb rfl rfl rfl rfl e3 (X_call rfl Tryz.func47 rfl rfl rfl (ACalls.mono h ?_))
    rintro v σ ⟨x113_35, rfl, h⟩
    refine Lp (V_pickT rfl (evb e3) rfl) rfl rfl ?_
    exact hk3 _ _ ⟨_, (FrLe.cons rfl (FrLe.cons rfl (FrLe.cons rfl (FrLe.cons rfl (FrLe.cons rfl (FrLe.cons rfl (FrLe.cons rfl (FrLe.cons rfl (FrLe.nil _))))))))), h⟩
  · intro h e3 hk3
    refine Ln rfl rfl rfl rfl (.inl (by rw [e3]; rfl)) ?_
    refine Ln rfl rfl rfl rfl (.inl (by rw [e3]; rfl)) ?_
    refine Ln rfl rfl rfl rfl (.inl (by rw [e3]; rfl)) ?_
    refine Lp (V_pickF rfl (evb e3) rfl) rfl rfl ?_
    exact hk3 _ _ ⟨_, (FrLe.cons rfl (FrLe.cons rfl (FrLe.cons rfl (FrLe.cons rfl (FrLe.cons rfl (FrLe.cons rfl (FrLe.cons rfl (FrLe.cons rfl (FrLe.nil _))))))))), h⟩
  rintro fr σ ⟨x114_31, hl, h⟩
  unfold j30_snap_Save at h
  refine Lfr hl ?_
  refine Lnil ?_
  refine thenN ?_
  refine AW.iff rfl Iff.rfl h (fun h => ?_) (fun h => ?_)
  rotate_left
  · refine AW.skip ?_
    refine blockN ?_
    refine thenN ?_
    exact ⟨(FrLe.cons rfl (FrLe.cons rfl (FrLe.cons rfl (FrLe.cons rfl (FrLe.cons rfl (FrLe.cons rfl (FrLe.nil _))))))), h⟩
  refine AW.reg ?_
  obtain ⟨x115_32, hc, h⟩ := h
  refine Ls rfl rfl (X_ld rfl Tryz.underlying26 rfl rfl hc ?_)
  refine Lp (V_move rfl rfl) rfl rfl ?_
  refine Ls rfl rfl (X_new (A_bsl (vs := [(0, .string x106_28)]) (cs := #[.string x106_28]) rfl Tryz.underlying83 ty9 (by decide) rfl rfl) fun x117_33 g1 g2 => ?_)
  replace h := h x117_33 g1 g2
  refine Ls rfl rfl (X_call rfl Tryz.func40 rfl rfl rfl (ACalls.mono h ?_))
  rintro v σ ⟨x118_34, rfl, h⟩
  refine Lnil ?_
  refine blockN ?_
  refine thenN ?_
  exact ⟨(FrLe.cons rfl (FrLe.cons rfl (FrLe.cons rfl (FrLe.cons rfl (FrLe.cons rfl (FrLe.cons rfl (FrLe.nil _))))))), h⟩

def j9_snap_Load (B : World) (ro : AH) (x8_4 : Nat) (x27_7 : Sl) (Q : Int → Sl → Bool → Int → AH → Prop) (x38_10 : Bool) (σ : AH) : Prop :=
 if x38_10 = true then
  Q 0 (⟨none, 0, 0⟩ : Sl) false 0 σ
 else
 ∃ (x40_11 : Int), acell ro σ ((⟨x8_4, 0, none⟩ : Addr).add 2) = some (.int .i64 x40_11) ∧
 Q x40_11 x27_7 true 0 σ

def f_snap_Load (B : World) (ro : AH) (a0 : Option Addr) (a1 : ByteArray) (σ : AH) (Q : Int → Sl → Bool → Int → AH → Prop) : Prop :=
 c_snap_rightName B ro a1 σ fun x11_1 σ =>
 if ¬ (x11_1 = true) then
  Q 0 (⟨none, 0, 0⟩ : Sl) false 40 σ
 else
 c_snap_readManifest B ro a0 a1 σ fun x16_2a x16_2b x16_2c x16_3 σ =>
 nw ro σ (.cells #[.int .i64 0, .int .i64 0, .int .i64 0] 90) fun x8_4 σ =>
 stN ⟨x8_4, 0, none⟩ (fun σ =>
  if ¬ (x16_3 = true) then
   Q 0 (⟨none, 0, 0⟩ : Sl) false 0 σ
  else
  ∃ (x25_5 : Int), acell ro σ ((⟨x8_4, 0, none⟩ : Addr).add 2) = some (.int .i64 x25_5) ∧
  c_snap_dataFile B ro a1 x25_5 σ fun x26_6 σ =>
  c_disk_Disk_Read B ro a0 x26_6 σ fun x27_7 x27_8 σ =>
  lent σ fun ψ σ =>
   if ¬ (x27_8 = 0) then
    (Disj ψ σ → (fun σ => 
     j9_snap_Load B ro x8_4 x27_7 Q true σ) (join ψ σ))
   else
   ∃ (x36_12a : Int) (x36_12b : Int), cellsAt (join ro ψ) (fun _ => none) ⟨x8_4, 0, none⟩ 0 [.int .i64 x36_12a, .int .i64 x36_12b] ∧
   c_snap_digestOf B (join ro ψ) x27_7 σ fun x34_13a x34_13b σ =>
   awp Tryz.prog (join ro ψ) (do eqGuard .neq 87 (.tmp 34) (.tmp 36) (.agg #[.int .i64 x34_13a, .int .i64 x34_13b]) (.agg #[.int .i64 x36_12a, .int .i64 x36_12b]); Go.binOp .neq 87 (.agg #[.int .i64 x34_13a, .int .i64 x34_13b]) (.agg #[.int .i64 x36_12a, .int .i64 x36_12b])) (fun v σ => ∃ x37_14 : Bool, v = .bool x37_14 ∧
    (Disj ψ σ → (fun σ => 
     j9_snap_Load B ro x8_4 x27_7 Q x37_14 σ) (join ψ σ))) σ) [.int .i64 x16_2a, .int .i64 x16_2b, .int .i64 x16_2c] 0 σ

set_option maxRecDepth 100000 in
set_option maxHeartbeats 4000000 in
theorem snap_Load_ok {B : World} {ro : AH} {a0 : Option Addr} {a1 : ByteArray} {σ : AH} {Q : Int → Sl → Bool → Int → AH → Prop} (h : Sep ro σ → f_snap_Load B ro a0 a1 σ Q) : c_snap_Load B ro a0 a1 σ Q := by
  refine ACalls.of_sep fun hsep => ?_
  replace h := h hsep
  refine ACalls.of_body (args := [.pointer a0, .string a1]) Tryz.func13 rfl (by rw [Tryz.ntmps13]; simp) ?_
  rw [Tryz.ntmps13]
  unfold f_snap_Load at h
  refine AW.seq ?_
  refine AW.reg ?_
  refine Lp (V_asg rfl rfl) rfl rfl ?_
  refine Lp (V_asg rfl rfl) rfl rfl ?_
  refine Lp (V_asg rfl rfl) rfl rfl ?_
  refine Lp (V_asg rfl rfl) rfl rfl ?_
  refine Lnil ?_
  refine thenN ?_
  refine AW.seq ?_
  refine AW.seq ?_
  refine AW.reg ?_
  refine Lp (V_move rfl rfl) rfl rfl ?_
  refine Ls rfl rfl (X_call rfl Tryz.func49 rfl rfl rfl (ACalls.mono h ?_))
  rintro v σ ⟨x11_1, rfl, h⟩
  refine Lp (V_not rfl rfl) rfl rfl ?_
  refine Lnil ?_
  refine thenN ?_
  refine AW.iff rfl (bnot_iff Iff.rfl) h (fun h => ?_) (fun h => ?_)
  · refine AW.seq ?_
    refine AW.reg ?_
    refine Lp (V_asg rfl rfl) rfl rfl ?_
    refine Lp (V_asg rfl rfl) rfl rfl ?_
    refine Lp (V_asg rfl rfl) rfl rfl ?_
    refine Lp (V_asg rfl rfl) rfl rfl ?_
    refine Lnil ?_
    refine thenN ?_
    refine AW.ret ?_
    refine thenR ?_
    exact bRM Tryz.results13 (rCons (rTmp rfl) (rCons (rTmp rfl) (rCons (rTmp rfl) (rCons (rTmp rfl) rNil)))) ⟨_, _, _, _, rfl, h⟩
  refine AW.skip ?_
  refine thenN ?_
  refine AW.seq ?_
  refine AW.reg ?_
  refine Lp (V_move rfl rfl) rfl rfl ?_
  refine Lp (V_move rfl rfl) rfl rfl ?_
  refine Ls rfl rfl (X_call rfl Tryz.func50 rfl rfl rfl (ACalls.mono h ?_))
  rintro v σ ⟨x16_2a, x16_2b, x16_2c, x16_3, rfl, h⟩
  refine Lp (V_move rfl rfl) rfl rfl ?_
  refine Lp (V_ext rfl rfl rfl) rfl rfl ?_
  refine Lp (V_ext rfl rfl rfl) rfl rfl ?_
  refine Ls rfl rfl (X_new (A_alloc rfl ty90) fun x8_4 g1 g2 => ?_)
  replace h := h x8_4 g1 g2
  refine Ls rfl rfl (X_st rfl ty90 rfl rfl rfl rfl (stN_mono h fun σ h => ?_))
  refine Lp (V_asg rfl rfl) rfl rfl ?_
  refine Lnil ?_
  refine thenN ?_
  refine AW.seq ?_
  refine AW.seq ?_
  refine AW.reg ?_
  refine Lp (V_move rfl rfl) rfl rfl ?_
  refine Lp (V_not rfl rfl) rfl rfl ?_
  refine Lnil ?_
  refine thenN ?_
  refine AW.iff rfl (bnot_iff Iff.rfl) h (fun h => ?_) (fun h => ?_)
  · refine AW.seq ?_
    refine AW.reg ?_
    refine Lp (V_asg rfl rfl) rfl rfl ?_
    refine Lp (V_asg rfl rfl) rfl rfl ?_
    refine Lp (V_asg rfl rfl) rfl rfl ?_
    refine Lp (V_asg rfl rfl) rfl rfl ?_
    refine Lnil ?_
    refine thenN ?_
    refine AW.ret ?_
    refine thenR ?_
    exact bRM Tryz.results13 (rCons (rTmp rfl) (rCons (rTmp rfl) (rCons (rTmp rfl) (rCons (rTmp rfl) rNil)))) ⟨_, _, _, _, rfl, h⟩
  refine AW.skip ?_
  refine thenN ?_
  refine AW.seq ?_
  refine AW.reg ?_
  refine Lp (V_move rfl rfl) rfl rfl ?_
  refine Lp (V_move rfl rfl) rfl rfl ?_
  refine Lp (V_fld rfl Tryz.underlying90 rfl ty3 (by decide) rfl) rfl rfl ?_
  obtain ⟨x25_5, hc, h⟩ := h
  refine Ls rfl rfl (X_ld rfl Tryz.underlying3 rfl rfl hc ?_)
  refine Ls rfl rfl (X_call rfl Tryz.func38 rfl rfl rfl (ACalls.mono h ?_))
  rintro v σ ⟨x26_6, rfl, h⟩
  refine Ls rfl rfl (X_call rfl Tryz.func51 rfl rfl rfl (ACalls.mono h ?_))
  rintro v σ ⟨x27_7, x27_8, rfl, h⟩
  refine Lp (V_move rfl rfl) rfl rfl ?_
  refine Lp (V_ext rfl rfl rfl) rfl rfl ?_
  refine Lp (V_ext rfl rfl rfl) rfl rfl ?_
  refine Lp (V_asg rfl rfl) rfl rfl ?_
  refine Lp (V_asg rfl rfl) rfl rfl ?_
  refine Lnil ?_
  refine thenN ?_
  refine AW.seq ?_
  refine AW.seqJ (fun fr σ => ∃ (x38_10 : Bool), FrLe [(5, Sl.v x27_7), (8, .pointer (some ⟨x8_4, 0, none⟩)), (38, .bool x38_10)] fr ∧ j9_snap_Load B ro x8_4 x27_7 Q x38_10 σ) ?_ ?_
  · rintro fr σ ⟨x38_10, hl, h⟩
    refine AW.weaken ?_ hl (HLe.refl _)
    unfold j9_snap_Load at h
    refine AW.iff rfl Iff.rfl h (fun h => ?_) (fun h => ?_)
    · refine AW.seq ?_
      refine AW.reg ?_
      refine Lp (V_asg rfl rfl) rfl rfl ?_
      refine Lp (V_asg rfl rfl) rfl rfl ?_
      refine Lp (V_asg rfl rfl) rfl rfl ?_
      refine Lp (V_asg rfl rfl) rfl rfl ?_
      refine Lnil ?_
      refine thenN ?_
      refine AW.ret ?_
      refine thenR ?_
      exact bRM Tryz.results13 (rCons (rTmp rfl) (rCons (rTmp rfl) (rCons (rTmp rfl) (rCons (rTmp rfl) rNil)))) ⟨_, _, _, _, rfl, h⟩
    refine AW.skip ?_
    refine thenN ?_
    refine AW.seq ?_
    refine AW.reg ?_
    refine Lp (V_fld rfl Tryz.underlying90 rfl ty3 (by decide) rfl) rfl rfl ?_
    obtain ⟨x40_11, hc, h⟩ := h
    refine Ls rfl rfl (X_ld rfl Tryz.underlying3 rfl rfl hc ?_)
    refine Lp (V_move rfl rfl) rfl rfl ?_
    refine Lp (V_asg rfl rfl) rfl rfl ?_
    refine Lp (V_asg rfl rfl) rfl rfl ?_
    refine Lp (V_asg rfl rfl) rfl rfl ?_
    refine Lp (V_asg rfl rfl) rfl rfl ?_
    refine Lnil ?_
    refine thenN ?_
    refine AW.ret ?_
    exact bRM Tryz.results13 (rCons (rTmp rfl) (rCons (rTmp rfl) (rCons (rTmp rfl) (rCons (rTmp rfl) rNil)))) ⟨_, _, _, _, rfl, h⟩
  refine AW.drawnL (fun i => ([0, 0, 0, 0, 2, 0, 0, 2, 0] : List Nat).getD i 2) [] [0, 1, 2, 3, 5, 6, 4, 7, 8] Tryz.mixed h (by decide +kernel) ?_
  clear h
  intro ψ σ h
  refine Dp rfl rfl rfl rfl (V_move rfl rfl) ?_
  refine Dp rfl rfl rfl rfl (V_neq rfl rfl rfl) ?_
  refine Dp rfl rfl rfl rfl (V_move rfl rfl) ?_
  refine splitP (!(decide (x27_8 = 0))) (bnot_iff decide_eq_true_iff) h ?_ ?_
  · intro h e2
    refine Dpn rfl rfl rfl rfl rfl (.inl (by rw [e2]; rfl)) rfl ?_
    refine Dpn rfl rfl rfl rfl rfl (.inl (by rw [e2]; rfl)) rfl ?_
    refine Dpn rfl rfl rfl rfl rfl (.inl (by rw [e2]; rfl)) rfl ?_
    refine Dgn rfl rfl rfl rfl rfl (.inl (by rw [e2]; rfl)) rfl ?_
    refine Dgn rfl rfl rfl rfl rfl (.inl (by rw [e2]; rfl)) rfl ?_
    refine Dp rfl rfl rfl rfl (V_pickT rfl (evb e2) rfl) ?_
    refine ⟨_, FrEq.refl _, fun hdj => ?_⟩
    replace h := h hdj
    refine thenN ?_
    exact ⟨_, (FrLe.cons rfl (FrLe.cons rfl (FrLe.cons rfl (FrLe.nil _)))), h⟩
  intro h e2
  refine Dpy rfl rfl rfl rfl rfl e2 rfl (V_move rfl rfl) ?_
  refine Dpy rfl rfl rfl rfl rfl e2 rfl (V_fld rfl Tryz.underlying90 rfl ty87 (by decide) rfl) ?_
  obtain ⟨x36_12a, x36_12b, hc, h⟩ := h
  refine Dpy rfl rfl rfl rfl rfl e2 rfl (V_lda rfl Tryz.underlying87 rfl ty87 rfl hc) ?_
  refine Dgy rfl rfl rfl rfl rfl e2 rfl (X_call rfl Tryz.func41 rfl rfl rfl (ACalls.mono h ?_))
  rintro v σ ⟨x34_13a, x34_13b, rfl, h⟩
  refine Dgy rfl rfl rfl rfl rfl e2 rfl (X_eq rfl rfl rfl (awp_mono _ h ?_))
  rintro v σ ⟨x37_14, rfl, h⟩
  refine Dp rfl rfl rfl rfl (V_pickF rfl (evb e2) rfl) ?_
  refine ⟨_, FrEq.refl _, fun hdj => ?_⟩
  replace h := h hdj
  refine thenN ?_
  exact ⟨_, (FrLe.cons rfl (FrLe.cons rfl (FrLe.cons rfl (FrLe.nil _)))), h⟩

def f_snap_dataFile (B : World) (ro : AH) (a0 : ByteArray) (a1 : Int) (σ : AH) (Q : ByteArray → AH → Prop) : Prop :=
 a0.size + (⟨#[46, 115]⟩ : ByteArray).size ≤ 9223372036854775807 ∧
 c_strconv_Itoa B ro a1 σ fun x8_1 σ =>
 (a0 ++ (⟨#[46, 115]⟩ : ByteArray)).size + x8_1.size ≤ 9223372036854775807 ∧
 Q ((a0 ++ (⟨#[46, 115]⟩ : ByteArray)) ++ x8_1) σ

set_option maxRecDepth 100000 in
set_option maxHeartbeats 4000000 in
theorem snap_dataFile_ok {B : World} {ro : AH} {a0 : ByteArray} {a1 : Int} {σ : AH} {Q : ByteArray → AH → Prop} (h : Sep ro σ → f_snap_dataFile B ro a0 a1 σ Q) : c_snap_dataFile B ro a0 a1 σ Q := by
  refine ACalls.of_sep fun hsep => ?_
  replace h := h hsep
  refine ACalls.of_body (args := [.string a0, .int .i64 a1]) Tryz.func38 rfl (by rw [Tryz.ntmps38]; simp) ?_
  rw [Tryz.ntmps38]
  unfold f_snap_dataFile at h
  refine AW.seq ?_
  refine AW.reg ?_
  refine Lp (V_asg rfl rfl) rfl rfl ?_
  refine Lnil ?_
  refine thenN ?_
  refine AW.seq ?_
  refine AW.reg ?_
  refine Lp (V_move rfl rfl) rfl rfl ?_
  obtain ⟨hc, h⟩ := h
  refine Lp (V_cat rfl rfl rfl hc) rfl rfl ?_
  refine Lp (V_move rfl rfl) rfl rfl ?_
  refine Ls rfl rfl (X_call rfl Tryz.func75 rfl rfl rfl (ACalls.mono h ?_))
  rintro v σ ⟨x8_1, rfl, h⟩
  obtain ⟨hc, h⟩ := h
  refine Lp (V_cat rfl rfl rfl hc) rfl rfl ?_
  refine Lp (V_asg rfl rfl) rfl rfl ?_
  refine Lnil ?_
  refine thenN ?_
  refine AW.ret ?_
  exact bR1 Tryz.results38 rfl ⟨_, rfl, h⟩

def l4_snap_Save_c1 (B : World) (ro : AH) (a2 : Addr) (x7_3 : Nat) (Q : AH → Prop) : (Int) → AH → ((Int) → AH → Prop) → Prop := fun x9_5 σ Y4 =>
 if x9_5 < ((⟨some ⟨x7_3, 0, none⟩, 2, 2⟩ : Sl).len : Int) then
  ∃ p11_6 : Addr, (⟨some ⟨x7_3, 0, none⟩, 2, 2⟩ : Sl).a = some p11_6 ∧ (0 : Int) ≤ x9_5 ∧ x9_5 < ((⟨some ⟨x7_3, 0, none⟩, 2, 2⟩ : Sl).len : Int) ∧
  ∃ (x12_7 : ByteArray), acell ro σ (p11_6.add (Int.toNat x9_5 * 1)) = some (.string x12_7) ∧
  ∃ (x13_8 : Option Addr), acell ro σ a2 = some (.pointer x13_8) ∧
  nw ro σ (.cells #[.string x12_7] 9) fun x15_9 σ =>
  c_disk_Disk_Remove B ro x13_8 (⟨some ⟨x15_9, 0, none⟩, 1, 1⟩ : Sl) σ fun x16_10 σ =>
  Y4 (IntKind.i64.wrap (x9_5 + 1)) σ
 else
 Q σ

def f_snap_Save_c1 (B : World) (ro : AH) (a0 : Addr) (a1 : Addr) (a2 : Addr) (σ : AH) (Q : AH → Prop) : Prop :=
 ∃ (x5_1 : ByteArray), acell ro σ a0 = some (.string x5_1) ∧
 ∃ (x6_2 : ByteArray), acell ro σ a1 = some (.string x6_2) ∧
 nw ro σ (.cells #[.string x5_1, .string x6_2] 9) fun x7_3 σ =>
 lfpD (l4_snap_Save_c1 B ro a2 x7_3 Q ) (0) σ

set_option maxRecDepth 100000 in
set_option maxHeartbeats 4000000 in
theorem snap_Save_c1_ok {B : World} {ro : AH} {a0 : Addr} {a1 : Addr} {a2 : Addr} {σ : AH} {Q : AH → Prop} (h : Sep ro σ → f_snap_Save_c1 B ro a0 a1 a2 σ Q) : c_snap_Save_c1 B ro a0 a1 a2 σ Q := by
  refine ACalls.of_sep fun hsep => ?_
  replace h := h hsep
  refine ACalls.of_body (args := [.pointer (some a0), .pointer (some a1), .pointer (some a2)]) Tryz.func39 rfl (by rw [Tryz.ntmps39]; simp) ?_
  rw [Tryz.ntmps39]
  unfold f_snap_Save_c1 at h
  refine AW.seq ?_
  refine AW.reg ?_
  obtain ⟨x5_1, hc, h⟩ := h
  refine Ls rfl rfl (X_ld rfl Tryz.underlying9 rfl rfl hc ?_)
  obtain ⟨x6_2, hc, h⟩ := h
  refine Ls rfl rfl (X_ld rfl Tryz.underlying9 rfl rfl hc ?_)
  refine Ls rfl rfl (X_new (A_bsl (vs := [(0, .string x5_1), (1, .string x6_2)]) (cs := #[.string x5_1, .string x6_2]) rfl Tryz.underlying83 ty9 (by decide) rfl rfl) fun x7_3 g1 g2 => ?_)
  replace h := h x7_3 g1 g2
  refine Lp (V_lenL rfl rfl Tryz.underlying83 rfl rfl) rfl rfl ?_
  refine Lp (V_move rfl rfl) rfl rfl ?_
  refine Lnil ?_
  refine thenN ?_
  refine AW.block ?_
  refine ARound.loop (fr' := [(2, .pointer (some a2)), (7, Sl.v (⟨some ⟨x7_3, 0, none⟩, 2, 2⟩ : Sl)), (8, .int .i64 ((⟨some ⟨x7_3, 0, none⟩, 2, 2⟩ : Sl).len : Int)), (9, .int .i64 0)]) ?_ (FrLe.cons rfl (FrLe.cons rfl (FrLe.cons rfl (FrLe.cons rfl (FrLe.nil _)))))
  refine h (fun x9_5 σ => ARound _ _ _ _ _ _ [(2, .pointer (some a2)), (7, Sl.v (⟨some ⟨x7_3, 0, none⟩, 2, 2⟩ : Sl)), (8, .int .i64 ((⟨some ⟨x7_3, 0, none⟩, 2, 2⟩ : Sl).len : Int)), (9, .int .i64 x9_5)] σ) ?_
  rintro x9_5 σ Y4 hY4 h
  show AW _ _ _ _ _ _ _ _
  unfold l4_snap_Save_c1 at h
  refine AW.seq ?_
  refine AW.reg ?_
  refine Lp (V_lss rfl rfl rfl) rfl rfl ?_
  refine Lnil ?_
  refine thenN ?_
  refine AW.seq ?_
  refine AW.iff rfl decide_eq_true_iff h (fun h => ?_) (fun h => ?_)
  rotate_left
  · refine AW.exit ?_
    refine thenE ?_
    refine thenE ?_
    refine blockE ?_
    exact bN0 Tryz.results39 ⟨rfl, h⟩
  refine AW.skip ?_
  refine thenN ?_
  refine AW.seq ?_
  refine AW.block ?_
  refine AW.seq ?_
  refine AW.reg ?_
  obtain ⟨p11_6, ha, h0, h1, h⟩ := h
  refine Lp (V_ixA rfl Tryz.underlying83 ty9 (ixL rfl ha) rfl h0 h1) rfl rfl ?_
  obtain ⟨x12_7, hc, h⟩ := h
  refine Ls rfl rfl (X_ld rfl Tryz.underlying9 rfl rfl hc ?_)
  refine Lp (V_asg rfl rfl) rfl rfl ?_
  refine Lnil ?_
  refine thenN ?_
  refine AW.reg ?_
  obtain ⟨x13_8, hc, h⟩ := h
  refine Ls rfl rfl (X_ld rfl Tryz.underlying26 rfl rfl hc ?_)
  refine Lp (V_move rfl rfl) rfl rfl ?_
  refine Ls rfl rfl (X_new (A_bsl (vs := [(0, .string x12_7)]) (cs := #[.string x12_7]) rfl Tryz.underlying83 ty9 (by decide) rfl rfl) fun x15_9 g1 g2 => ?_)
  replace h := h x15_9 g1 g2
  refine Ls rfl rfl (X_call rfl Tryz.func40 rfl rfl rfl (ACalls.mono h ?_))
  rintro v σ ⟨x16_10, rfl, h⟩
  refine Lnil ?_
  refine blockN ?_
  refine thenN ?_
  refine AW.reg ?_
  refine Lp (V_add rfl rfl rfl) rfl rfl ?_
  refine Lp (V_move rfl rfl) rfl rfl ?_
  refine Lnil ?_
  refine thenN ?_
  refine ARound.head (fr' := [(2, .pointer (some a2)), (7, Sl.v (⟨some ⟨x7_3, 0, none⟩, 2, 2⟩ : Sl)), (8, .int .i64 ((⟨some ⟨x7_3, 0, none⟩, 2, 2⟩ : Sl).len : Int)), (9, .int .i64 (IntKind.i64.wrap (x9_5 + 1)))]) ?_ (FrLe.cons rfl (FrLe.cons rfl (FrLe.cons rfl (FrLe.cons rfl (FrLe.nil _)))))
  exact hY4 _ _ h

def f_snap_digestOf (B : World) (ro : AH) (a0 : Sl) (σ : AH) (Q : Int → Int → AH → Prop) : Prop :=
 nw ro σ (.cells #[.int .i64 0, .int .i64 0] 87) fun x2_1 σ =>
 c_wire_Sum B ro a0 σ fun x6_2 σ =>
 stN ⟨x2_1, 0, none⟩ (fun σ =>
  ∃ (x2_3a : Int) (x2_3b : Int), cellsAt ro σ ⟨x2_1, 0, none⟩ 0 [.int .i64 x2_3a, .int .i64 x2_3b] ∧
  Q x2_3a x2_3b σ) [.int .i64 (a0.len : Int), .int .i64 x6_2] 0 σ

set_option maxRecDepth 100000 in
set_option maxHeartbeats 4000000 in
theorem snap_digestOf_ok {B : World} {ro : AH} {a0 : Sl} {σ : AH} {Q : Int → Int → AH → Prop} (h : Sep ro σ → f_snap_digestOf B ro a0 σ Q) : c_snap_digestOf B ro a0 σ Q := by
  refine ACalls.of_sep fun hsep => ?_
  replace h := h hsep
  refine ACalls.of_body (args := [Sl.v a0]) Tryz.func41 rfl (by rw [Tryz.ntmps41]; simp) ?_
  rw [Tryz.ntmps41]
  unfold f_snap_digestOf at h
  refine AW.seq ?_
  refine AW.reg ?_
  refine Ls rfl rfl (X_new (A_alloc rfl ty87) fun x2_1 g1 g2 => ?_)
  replace h := h x2_1 g1 g2
  refine Lnil ?_
  refine thenN ?_
  refine AW.seq ?_
  refine AW.reg ?_
  refine Lp (V_move rfl rfl) rfl rfl ?_
  refine Lp (V_lenL rfl rfl Tryz.underlying22 rfl rfl) rfl rfl ?_
  refine Lp (V_move rfl rfl) rfl rfl ?_
  refine Ls rfl rfl (X_call rfl Tryz.func77 rfl rfl rfl (ACalls.mono h ?_))
  rintro v σ ⟨x6_2, rfl, h⟩
  refine Lp (V_bld (vs := [(0, .int .i64 (a0.len : Int)), (1, .int .i64 x6_2)]) (cs := #[.int .i64 (a0.len : Int), .int .i64 x6_2]) rfl Tryz.underlying87 ty87 pl87 rfl rfl) rfl rfl ?_
  refine Ls rfl rfl (X_st rfl ty87 rfl rfl rfl rfl (stN_mono h fun σ h => ?_))
  refine Lnil ?_
  refine thenN ?_
  refine AW.ret ?_
  obtain ⟨x2_3a, x2_3b, hc0, h⟩ := h
  exact bRM1 Tryz.results41 (rCons (rAgg rfl Tryz.underlying87 rfl ty87 hc0) rNil) ⟨_, _, rfl, h⟩

def f_snap_manifest_bytes (B : World) (ro : AH) (a0_0 : Int) (a0_1 : Int) (a0_2 : Int) (σ : AH) (Q : Sl → AH → Prop) : Prop :=
 nw ro σ (.cells #[.int .i64 a0_0, .int .i64 a0_1, .int .i64 a0_2] 90) fun x1_1 σ =>
 ∃ (x9_2 : Int), acell ro σ ((⟨x1_1, 0, none⟩ : Addr).add 2) = some (.int .i64 x9_2) ∧
 ∃ (x12_3 : Int), acell ro σ ⟨x1_1, 0, none⟩ = some (.int .i64 x12_3) ∧
 ∃ (x15_4 : Int), acell ro σ ((⟨x1_1, 0, none⟩ : Addr).add 1) = some (.int .i64 x15_4) ∧
 nw ro σ (.cells #[.int .i64 x9_2, .int .i64 x12_3, .int .i64 x15_4] 3) fun x16_5 σ =>
 c_wire_Numbers B ro (⟨some ⟨x16_5, 0, none⟩, 3, 3⟩ : Sl) σ fun x17_6 x17_7 σ =>
 c_wire_Frame B ro x17_6 σ fun x22_8 x22_9 σ =>
 Q x22_8 σ

set_option maxRecDepth 100000 in
set_option maxHeartbeats 4000000 in
theorem snap_manifest_bytes_ok {B : World} {ro : AH} {a0_0 : Int} {a0_1 : Int} {a0_2 : Int} {σ : AH} {Q : Sl → AH → Prop} (h : Sep ro σ → f_snap_manifest_bytes B ro a0_0 a0_1 a0_2 σ Q) : c_snap_manifest_bytes B ro a0_0 a0_1 a0_2 σ Q := by
  refine ACalls.of_sep fun hsep => ?_
  replace h := h hsep
  refine ACalls.of_body (args := [.agg #[.int .i64 a0_0, .int .i64 a0_1, .int .i64 a0_2]]) Tryz.func42 rfl (by rw [Tryz.ntmps42]; simp) ?_
  rw [Tryz.ntmps42]
  unfold f_snap_manifest_bytes at h
  refine AW.seq ?_
  refine AW.reg ?_
  refine Ls rfl rfl (X_new (A_box rfl rfl) fun x1_1 g1 g2 => ?_)
  replace h := h x1_1 g1 g2
  refine Lp (V_asg rfl rfl) rfl rfl ?_
  refine Lnil ?_
  refine thenN ?_
  refine AW.seq ?_
  refine AW.reg ?_
  refine Lp (V_fld rfl Tryz.underlying90 rfl ty3 (by decide) rfl) rfl rfl ?_
  obtain ⟨x9_2, hc, h⟩ := h
  refine Ls rfl rfl (X_ld rfl Tryz.underlying3 rfl rfl hc ?_)
  refine Lp (V_fld rfl Tryz.underlying90 rfl ty87 (by decide) rfl) rfl rfl ?_
  refine Lp (V_fld rfl Tryz.underlying87 rfl ty3 (by decide) rfl) rfl rfl ?_
  obtain ⟨x12_3, hc, h⟩ := h
  refine Ls rfl rfl (X_ld rfl Tryz.underlying3 rfl rfl hc ?_)
  refine Lp (V_fld rfl Tryz.underlying90 rfl ty87 (by decide) rfl) rfl rfl ?_
  refine Lp (V_fld rfl Tryz.underlying87 rfl ty3 (by decide) rfl) rfl rfl ?_
  obtain ⟨x15_4, hc, h⟩ := h
  refine Ls rfl rfl (X_ld rfl Tryz.underlying3 rfl rfl hc ?_)
  refine Ls rfl rfl (X_new (A_bsl (vs := [(0, .int .i64 x9_2), (1, .int .i64 x12_3), (2, .int .i64 x15_4)]) (cs := #[.int .i64 x9_2, .int .i64 x12_3, .int .i64 x15_4]) rfl Tryz.underlying23 ty3 (by decide) rfl rfl) fun x16_5 g1 g2 => ?_)
  replace h := h x16_5 g1 g2
  refine Ls rfl rfl (X_call rfl Tryz.func78 rfl rfl rfl (ACalls.mono h ?_))
  rintro v σ ⟨x17_6, x17_7, rfl, h⟩
  refine Lp (V_move rfl rfl) rfl rfl ?_
  refine Lp (V_ext rfl rfl rfl) rfl rfl ?_
  refine Lp (V_ext rfl rfl rfl) rfl rfl ?_
  refine Lp (V_asg rfl rfl) rfl rfl ?_
  refine Lp (V_asg rfl rfl) rfl rfl ?_
  refine Lnil ?_
  refine thenN ?_
  refine AW.seq ?_
  refine AW.reg ?_
  refine Lp (V_move rfl rfl) rfl rfl ?_
  refine Ls rfl rfl (X_call rfl Tryz.func79 rfl rfl rfl (ACalls.mono h ?_))
  rintro v σ ⟨x22_8, x22_9, rfl, h⟩
  refine Lp (V_move rfl rfl) rfl rfl ?_
  refine Lp (V_ext rfl rfl rfl) rfl rfl ?_
  refine Lp (V_ext rfl rfl rfl) rfl rfl ?_
  refine Lp (V_asg rfl rfl) rfl rfl ?_
  refine Lp (V_asg rfl rfl) rfl rfl ?_
  refine Lnil ?_
  refine thenN ?_
  refine AW.seq ?_
  refine AW.reg ?_
  refine Lp (V_move rfl rfl) rfl rfl ?_
  refine Lp (V_asg rfl rfl) rfl rfl ?_
  refine Lnil ?_
  refine thenN ?_
  refine AW.ret ?_
  exact bR1 Tryz.results42 rfl ⟨_, rfl, h⟩

def j6_snap_isData (B : World) (ro : AH) (Q : Bool → AH → Prop) (x38_7 : Bool) (σ : AH) : Prop :=
 Q x38_7 σ

def f_snap_isData (B : World) (ro : AH) (a0 : ByteArray) (a1 : ByteArray) (σ : AH) (Q : Bool → AH → Prop) : Prop :=
 a0.size + (⟨#[46, 115]⟩ : ByteArray).size ≤ 9223372036854775807 ∧
 c_strings_CutPrefix B ro a1 (a0 ++ (⟨#[46, 115]⟩ : ByteArray)) σ fun x13_1 x13_2 σ =>
 if ¬ (x13_2 = true) then
  Q false σ
 else
 c_strconv_Atoi B ro x13_1 σ fun x20_3 x20_4 σ =>
 awp Tryz.prog ro (do eqGuard .eql 152 (.tmp 23) (.const .nilIface) x20_4 .nilIface; Go.binOp .eql 152 x20_4 .nilIface) (fun v σ => ∃ x24_5 : Bool, v = .bool x24_5 ∧
  if ((x24_5 = true) ∧ (0 ≤ x20_3)) ∧ (x20_3 ≤ 4611686018427387903) then
   c_strconv_Itoa B ro x20_3 σ fun x35_8 σ =>
   j6_snap_isData B ro Q (decide (x35_8 = x13_1)) σ
  else
  j6_snap_isData B ro Q false σ) σ

set_option maxRecDepth 100000 in
set_option maxHeartbeats 4000000 in
theorem snap_isData_ok {B : World} {ro : AH} {a0 : ByteArray} {a1 : ByteArray} {σ : AH} {Q : Bool → AH → Prop} (h : Sep ro σ → f_snap_isData B ro a0 a1 σ Q) : c_snap_isData B ro a0 a1 σ Q := by
  refine ACalls.of_sep fun hsep => ?_
  replace h := h hsep
  refine ACalls.of_body (args := [.string a0, .string a1]) Tryz.func47 rfl (by rw [Tryz.ntmps47]; simp) ?_
  rw [Tryz.ntmps47]
  unfold f_snap_isData at h
  refine AW.seq ?_
  refine AW.reg ?_
  refine Lp (V_asg rfl rfl) rfl rfl ?_
  refine Lnil ?_
  refine thenN ?_
  refine AW.seq ?_
  refine AW.reg ?_
  refine Lp (V_move rfl rfl) rfl rfl ?_
  refine Lp (V_move rfl rfl) rfl rfl ?_
  obtain ⟨hc, h⟩ := h
  refine Lp (V_cat rfl rfl rfl hc) rfl rfl ?_
  refine Ls rfl rfl (X_call rfl Tryz.func83 rfl rfl rfl (ACalls.mono h ?_))
  rintro v σ ⟨x13_1, x13_2, rfl, h⟩
  refine Lp (V_move rfl rfl) rfl rfl ?_
  refine Lp (V_ext rfl rfl rfl) rfl rfl ?_
  refine Lp (V_ext rfl rfl rfl) rfl rfl ?_
  refine Lp (V_asg rfl rfl) rfl rfl ?_
  refine Lp (V_asg rfl rfl) rfl rfl ?_
  refine Lnil ?_
  refine thenN ?_
  refine AW.seq ?_
  refine AW.seq ?_
  refine AW.reg ?_
  refine Lp (V_move rfl rfl) rfl rfl ?_
  refine Lp (V_not rfl rfl) rfl rfl ?_
  refine Lnil ?_
  refine thenN ?_
  refine AW.iff rfl (bnot_iff Iff.rfl) h (fun h => ?_) (fun h => ?_)
  · refine AW.seq ?_
    refine AW.reg ?_
    refine Lp (V_asg rfl rfl) rfl rfl ?_
    refine Lnil ?_
    refine thenN ?_
    refine AW.ret ?_
    refine thenR ?_
    exact bR1 Tryz.results47 rfl ⟨_, rfl, h⟩
  refine AW.skip ?_
  refine thenN ?_
  refine AW.seq ?_
  refine AW.reg ?_
  refine Lp (V_move rfl rfl) rfl rfl ?_
  refine Ls rfl rfl (X_call rfl Tryz.func84 rfl rfl rfl (ACalls.mono h ?_))
  rintro v σ ⟨x20_3, x20_4, rfl, h⟩
  refine Lp (V_move rfl rfl) rfl rfl ?_
  refine Lp (V_ext rfl rfl rfl) rfl rfl ?_
  refine Lp (V_ext rfl rfl rfl) rfl rfl ?_
  refine Lp (V_asg rfl rfl) rfl rfl ?_
  refine Lp (V_asg rfl rfl) rfl rfl ?_
  refine Lnil ?_
  refine thenN ?_
  refine AW.seq ?_
  refine AW.reg ?_
  refine Lp (V_move rfl rfl) rfl rfl ?_
  refine Ls rfl rfl (X_eq rfl rfl rfl (awp_mono _ h ?_))
  rintro v σ ⟨x24_5, rfl, h⟩
  refine Lp (V_move rfl rfl) rfl rfl ?_
  refine Lsplit 3 x24_5 [(5, .string x13_1), (7, .int .i64 x20_3), (28, .bool (x24_5 && (decide (0 ≤ x20_3))))] ?_ ?_ ?_
  · intro e2 hk2
    refine Lypb (V_move rfl rfl) rfl rfl rfl rfl e2 ?_
    refine Lypb (V_geq rfl rfl rfl) rfl rfl rfl rfl e2 ?_
    refine Lp (V_pickT rfl (evb e2) rfl) rfl rfl ?_
    exact hk2 _ (FrLe.cons rfl (FrLe.cons rfl (FrLe.cons (by rw [e2]; rfl) (FrLe.nil _))))
  · intro e2 hk2
    refine Ln rfl rfl rfl rfl (.inl (by rw [e2]; rfl)) ?_
    refine Ln rfl rfl rfl rfl (.inl (by rw [e2]; rfl)) ?_
    refine Lp (V_pickF rfl (evb e2) rfl) rfl rfl ?_
    exact hk2 _ (FrLe.cons rfl (FrLe.cons rfl (FrLe.cons (by rw [e2]; rfl) (FrLe.nil _))))
  intro fr hl
  refine Lfr hl ?_
  refine Lp (V_move rfl rfl) rfl rfl ?_
  refine Lsplit 3 (x24_5 && (decide (0 ≤ x20_3))) [(5, .string x13_1), (7, .int .i64 x20_3), (32, .bool ((x24_5 && (decide (0 ≤ x20_3))) && (decide (x20_3 ≤ 4611686018427387903))))] ?_ ?_ ?_
  · intro e6 hk6
    refine Lypb (V_move rfl rfl) rfl rfl rfl rfl e6 ?_
    refine Lypb (V_leq rfl rfl rfl) rfl rfl rfl rfl e6 ?_
    refine Lp (V_pickT rfl (evb e6) rfl) rfl rfl ?_
    exact hk6 _ (FrLe.cons rfl (FrLe.cons rfl (FrLe.cons (by rw [e6]; rfl) (FrLe.nil _))))
  · intro e6 hk6
    refine Ln rfl rfl rfl rfl (.inl (by rw [e6]; rfl)) ?_
    refine Ln rfl rfl rfl rfl (.inl (by rw [e6]; rfl)) ?_
    refine Lp (V_pickF rfl (evb e6) rfl) rfl rfl ?_
    exact hk6 _ (FrLe.cons rfl (FrLe.cons rfl (FrLe.cons (by rw [e6]; rfl) (FrLe.nil _))))
  intro fr hl
  refine Lfr hl ?_
  refine Lp (V_move rfl rfl) rfl rfl ?_
  refine LsplitJ 5 ((x24_5 && (decide (0 ≤ x20_3))) && (decide (x20_3 ≤ 4611686018427387903))) (band_iff (band_iff Iff.rfl decide_eq_true_iff) decide_eq_true_iff) h (fun fr σ => ∃ (x38_7 : Bool), FrLe [(38, .bool x38_7)] fr ∧ j6_snap_isData B ro Q x38_7 σ) ?_ ?_ ?_
  · intro h e10 hk10
    refine Lypb (V_move rfl rfl) rfl rfl rfl rfl e10 ?_
    refine Lyb rfl rfl rfl rfl e10 (X_call rfl Tryz.func75 rfl rfl rfl (ACalls.mono h ?_))
    rintro v σ ⟨x35_8, rfl, h⟩
    refine Lypb (V_move rfl rfl) rfl rfl rfl rfl e10 ?_
    refine Lypb (V_eqlS rfl rfl rfl) rfl rfl rfl rfl e10 ?_
    refine Lp (V_pickT rfl (evb e10) rfl) rfl rfl ?_
    exact hk10 _ _ ⟨_, (FrLe.cons rfl (FrLe.nil _)), h⟩
  · intro h e10 hk10
    refine Ln rfl rfl rfl rfl (.inl (by rw [e10]; rfl)) ?_
    refine Ln rfl rfl rfl rfl (.inl (by rw [e10]; rfl)) ?_
    refine Ln rfl rfl rfl rfl (.inl (by rw [e10]; rfl)) ?_
    refine Ln rfl rfl rfl rfl (.inl (by rw [e10]; rfl)) ?_
    refine Lp (V_pickF rfl (evb e10) rfl) rfl rfl ?_
    exact hk10 _ _ ⟨_, (FrLe.cons rfl (FrLe.nil _)), h⟩
  rintro fr σ ⟨x38_7, hl, h⟩
  unfold j6_snap_isData at h
  refine Lfr hl ?_
  refine Lp (V_asg rfl rfl) rfl rfl ?_
  refine Lnil ?_
  refine thenN ?_
  refine AW.ret ?_
  exact bR1 Tryz.results47 rfl ⟨_, rfl, h⟩

def j1_snap_rightName (B : World) (ro : AH) (Q : Bool → AH → Prop) (x14_2 : Bool) (σ : AH) : Prop :=
 Q x14_2 σ

def f_snap_rightName (B : World) (ro : AH) (a0 : ByteArray) (σ : AH) (Q : Bool → AH → Prop) : Prop :=
 if (¬ (a0 = (⟨#[]⟩ : ByteArray))) ∧ ((a0.size : Int) ≤ 12) then
  c_strings_Trim B ro a0 (⟨#[97, 98, 99, 100, 101, 102, 103, 104, 105, 106, 107, 108, 109, 110, 111, 112, 113, 114, 115, 116, 117, 118, 119, 120, 121, 122, 48, 49, 50, 51, 52, 53, 54, 55, 56, 57, 45]⟩ : ByteArray) σ fun x12_3 σ =>
  j1_snap_rightName B ro Q (decide (x12_3 = (⟨#[]⟩ : ByteArray))) σ
 else
 j1_snap_rightName B ro Q false σ

set_option maxRecDepth 100000 in
set_option maxHeartbeats 4000000 in
theorem snap_rightName_ok {B : World} {ro : AH} {a0 : ByteArray} {σ : AH} {Q : Bool → AH → Prop} (h : Sep ro σ → f_snap_rightName B ro a0 σ Q) : c_snap_rightName B ro a0 σ Q := by
  refine ACalls.of_sep fun hsep => ?_
  replace h := h hsep
  refine ACalls.of_body (args := [.string a0]) Tryz.func49 rfl (by rw [Tryz.ntmps49]; simp) ?_
  rw [Tryz.ntmps49]
  unfold f_snap_rightName at h
  refine AW.seq ?_
  refine AW.reg ?_
  refine Lp (V_asg rfl rfl) rfl rfl ?_
  refine Lnil ?_
  refine thenN ?_
  refine AW.seq ?_
  refine AW.reg ?_
  refine Lp (V_move rfl rfl) rfl rfl ?_
  refine Lp (V_neqS rfl rfl rfl) rfl rfl ?_
  refine Lp (V_move rfl rfl) rfl rfl ?_
  refine Lsplit 4 (!(decide (a0 = (⟨#[]⟩ : ByteArray)))) [(0, .string a0), (9, .bool ((!(decide (a0 = (⟨#[]⟩ : ByteArray)))) && (decide ((a0.size : Int) ≤ 12))))] ?_ ?_ ?_
  · intro e2 hk2
    refine Lypb (V_move rfl rfl) rfl rfl rfl rfl e2 ?_
    refine Lypb (V_lenS rfl rfl Tryz.underlying9 rfl rfl) rfl rfl rfl rfl e2 ?_
    refine Lypb (V_leq rfl rfl rfl) rfl rfl rfl rfl e2 ?_
    refine Lp (V_pickT rfl (evb e2) rfl) rfl rfl ?_
    exact hk2 _ (FrLe.cons rfl (FrLe.cons (by rw [e2]; rfl) (FrLe.nil _)))
  · intro e2 hk2
    refine Ln rfl rfl rfl rfl (.inl (by rw [e2]; rfl)) ?_
    refine Ln rfl rfl rfl rfl (.inl (by rw [e2]; rfl)) ?_
    refine Ln rfl rfl rfl rfl (.inl (by rw [e2]; rfl)) ?_
    refine Lp (V_pickF rfl (evb e2) rfl) rfl rfl ?_
    exact hk2 _ (FrLe.cons rfl (FrLe.cons (by rw [e2]; rfl) (FrLe.nil _)))
  intro fr hl
  refine Lfr hl ?_
  refine Lp (V_move rfl rfl) rfl rfl ?_
  refine LsplitJ 4 ((!(decide (a0 = (⟨#[]⟩ : ByteArray)))) && (decide ((a0.size : Int) ≤ 12))) (band_iff (bnot_iff decide_eq_true_iff) decide_eq_true_iff) h (fun fr σ => ∃ (x14_2 : Bool), FrLe [(14, .bool x14_2)] fr ∧ j1_snap_rightName B ro Q x14_2 σ) ?_ ?_ ?_
  · intro h e7 hk7
    refine Lypb (V_move rfl rfl) rfl rfl rfl rfl e7 ?_
    refine Lyb rfl rfl rfl rfl e7 (X_call rfl Tryz.func85 rfl rfl rfl (ACalls.mono h ?_))
    rintro v σ ⟨x12_3, rfl, h⟩
    refine Lypb (V_eqlS rfl rfl rfl) rfl rfl rfl rfl e7 ?_
    refine Lp (V_pickT rfl (evb e7) rfl) rfl rfl ?_
    exact hk7 _ _ ⟨_, (FrLe.cons rfl (FrLe.nil _)), h⟩
  · intro h e7 hk7
    refine Ln rfl rfl rfl rfl (.inl (by rw [e7]; rfl)) ?_
    refine Ln rfl rfl rfl rfl (.inl (by rw [e7]; rfl)) ?_
    refine Ln rfl rfl rfl rfl (.inl (by rw [e7]; rfl)) ?_
    refine Lp (V_pickF rfl (evb e7) rfl) rfl rfl ?_
    exact hk7 _ _ ⟨_, (FrLe.cons rfl (FrLe.nil _)), h⟩
  rintro fr σ ⟨x14_2, hl, h⟩
  unfold j1_snap_rightName at h
  refine Lfr hl ?_
  refine Lp (V_asg rfl rfl) rfl rfl ?_
  refine Lnil ?_
  refine thenN ?_
  refine AW.ret ?_
  exact bR1 Tryz.results49 rfl ⟨_, rfl, h⟩

def j14_snap_readManifest (B : World) (ro : AH) (x4_1 : Nat) (Q : Int → Int → Int → Bool → AH → Prop) (x5_15 : Bool) (σ : AH) : Prop :=
 ∃ (x4_16a : Int) (x4_16b : Int) (x4_16c : Int), cellsAt ro σ ⟨x4_1, 0, none⟩ 0 [.int .i64 x4_16a, .int .i64 x4_16b, .int .i64 x4_16c] ∧
 Q x4_16a x4_16b x4_16c x5_15 σ

def f_snap_readManifest (B : World) (ro : AH) (a0 : Option Addr) (a1 : ByteArray) (σ : AH) (Q : Int → Int → Int → Bool → AH → Prop) : Prop :=
 nw ro σ (.cells #[.int .i64 0, .int .i64 0, .int .i64 0] 90) fun x4_1 σ =>
 a1.size + (⟨#[46, 109, 97, 110]⟩ : ByteArray).size ≤ 9223372036854775807 ∧
 c_disk_Disk_Read B ro a0 (a1 ++ (⟨#[46, 109, 97, 110]⟩ : ByteArray)) σ fun x16_2 x16_3 σ =>
 if ¬ (x16_3 = 0) then
  stN ⟨x4_1, 0, none⟩ (fun σ =>
   ∃ (x4_4a : Int) (x4_4b : Int) (x4_4c : Int), cellsAt ro σ ⟨x4_1, 0, none⟩ 0 [.int .i64 x4_4a, .int .i64 x4_4b, .int .i64 x4_4c] ∧
   Q x4_4a x4_4b x4_4c false σ) [.int .i64 0, .int .i64 0, .int .i64 0] 0 σ
 else
 c_wire_Unframe B ro x16_2 0 σ fun x24_5 x24_6 x24_7 σ =>
 if (¬ (x24_7 = 0)) ∨ (¬ (x24_6 = (x16_2.len : Int))) then
  stN ⟨x4_1, 0, none⟩ (fun σ =>
   ∃ (x4_8a : Int) (x4_8b : Int) (x4_8c : Int), cellsAt ro σ ⟨x4_1, 0, none⟩ 0 [.int .i64 x4_8a, .int .i64 x4_8b, .int .i64 x4_8c] ∧
   Q x4_8a x4_8b x4_8c false σ) [.int .i64 0, .int .i64 0, .int .i64 0] 0 σ
 else
 c_wire_NewReader B ro x24_5 σ fun x38_9 σ =>
 c_wire_Reader_Num B ro x38_9 σ fun x40_10 σ =>
 nw ro σ (.cells #[.int .i64 0, .int .i64 0, .int .i64 0] 90) fun x11_11 σ =>
 stN ⟨x11_11, 0, none⟩ (fun σ =>
  c_wire_Reader_Num B ro x38_9 σ fun x43_12 σ =>
  c_wire_Reader_Num B ro x38_9 σ fun x45_13 σ =>
  stN ⟨x11_11, 0, none⟩ (fun σ =>
   stN ((⟨x11_11, 0, none⟩ : Addr).add 1) (fun σ =>
    lent σ fun ψ σ =>
     ∃ (x50_17a : Int) (x50_17b : Int) (x50_17c : Int), cellsAt (join ro ψ) (fun _ => none) ⟨x11_11, 0, none⟩ 0 [.int .i64 x50_17a, .int .i64 x50_17b, .int .i64 x50_17c] ∧
     c_wire_Reader_Err B (join ro ψ) x38_9 σ fun x52_18 σ =>
     if x52_18 = 0 then
      c_wire_Reader_Left B (join ro ψ) x38_9 σ fun x56_19 σ =>
      stN ⟨x4_1, 0, none⟩ (fun σ =>
       (Disj ψ σ → (fun σ => 
        j14_snap_readManifest B ro x4_1 Q (decide (x56_19 = 0)) σ) (join ψ σ))) [.int .i64 x50_17a, .int .i64 x50_17b, .int .i64 x50_17c] 0 σ
     else
     stN ⟨x4_1, 0, none⟩ (fun σ =>
      (Disj ψ σ → (fun σ => 
       j14_snap_readManifest B ro x4_1 Q false σ) (join ψ σ))) [.int .i64 x50_17a, .int .i64 x50_17b, .int .i64 x50_17c] 0 σ) [.int .i64 x45_13] 0 σ) [.int .i64 x43_12] 0 σ) [.int .i64 0, .int .i64 0, .int .i64 x40_10] 0 σ

set_option maxRecDepth 100000 in
set_option maxHeartbeats 4000000 in
theorem snap_readManifest_ok {B : World} {ro : AH} {a0 : Option Addr} {a1 : ByteArray} {σ : AH} {Q : Int → Int → Int → Bool → AH → Prop} (h : Sep ro σ → f_snap_readManifest B ro a0 a1 σ Q) : c_snap_readManifest B ro a0 a1 σ Q := by
  refine ACalls.of_sep fun hsep => ?_
  replace h := h hsep
  refine ACalls.of_body (args := [.pointer a0, .string a1]) Tryz.func50 rfl (by rw [Tryz.ntmps50]; simp) ?_
  rw [Tryz.ntmps50]
  unfold f_snap_readManifest at h
  refine AW.seq ?_
  refine AW.reg ?_
  refine Ls rfl rfl (X_new (A_alloc rfl ty90) fun x4_1 g1 g2 => ?_)
  replace h := h x4_1 g1 g2
  refine Lp (V_asg rfl rfl) rfl rfl ?_
  refine Lnil ?_
  refine thenN ?_
  refine AW.seq ?_
  refine AW.reg ?_
  refine Lp (V_move rfl rfl) rfl rfl ?_
  refine Lp (V_move rfl rfl) rfl rfl ?_
  obtain ⟨hc, h⟩ := h
  refine Lp (V_cat rfl rfl rfl hc) rfl rfl ?_
  refine Ls rfl rfl (X_call rfl Tryz.func51 rfl rfl rfl (ACalls.mono h ?_))
  rintro v σ ⟨x16_2, x16_3, rfl, h⟩
  refine Lp (V_move rfl rfl) rfl rfl ?_
  refine Lp (V_ext rfl rfl rfl) rfl rfl ?_
  refine Lp (V_ext rfl rfl rfl) rfl rfl ?_
  refine Lp (V_asg rfl rfl) rfl rfl ?_
  refine Lp (V_asg rfl rfl) rfl rfl ?_
  refine Lnil ?_
  refine thenN ?_
  refine AW.seq ?_
  refine AW.seq ?_
  refine AW.reg ?_
  refine Lp (V_move rfl rfl) rfl rfl ?_
  refine Lp (V_neq rfl rfl rfl) rfl rfl ?_
  refine Lnil ?_
  refine thenN ?_
  refine AW.iff rfl (bnot_iff decide_eq_true_iff) h (fun h => ?_) (fun h => ?_)
  · refine AW.seq ?_
    refine AW.reg ?_
    refine Lp (V_bld (vs := []) (cs := #[.int .i64 0, .int .i64 0, .int .i64 0]) rfl Tryz.underlying90 ty90 pl90 rfl rfl) rfl rfl ?_
    refine Ls rfl rfl (X_st rfl ty90 rfl rfl rfl rfl (stN_mono h fun σ h => ?_))
    refine Lp (V_asg rfl rfl) rfl rfl ?_
    refine Lnil ?_
    refine thenN ?_
    refine AW.ret ?_
    refine thenR ?_
    obtain ⟨x4_4a, x4_4b, x4_4c, hc0, h⟩ := h
    exact bRM Tryz.results50 (rCons (rAgg rfl Tryz.underlying90 rfl ty90 hc0) (rCons (rTmp rfl) rNil)) ⟨_, _, _, _, rfl, h⟩
  refine AW.skip ?_
  refine thenN ?_
  refine AW.seq ?_
  refine AW.reg ?_
  refine Lp (V_move rfl rfl) rfl rfl ?_
  refine Ls rfl rfl (X_call rfl Tryz.func86 rfl rfl rfl (ACalls.mono h ?_))
  rintro v σ ⟨x24_5, x24_6, x24_7, rfl, h⟩
  refine Lp (V_move rfl rfl) rfl rfl ?_
  refine Lp (V_ext rfl rfl rfl) rfl rfl ?_
  refine Lp (V_ext rfl rfl rfl) rfl rfl ?_
  refine Lp (V_ext rfl rfl rfl) rfl rfl ?_
  refine Lp (V_asg rfl rfl) rfl rfl ?_
  refine Lp (V_asg rfl rfl) rfl rfl ?_
  refine Lp (V_asg rfl rfl) rfl rfl ?_
  refine Lnil ?_
  refine thenN ?_
  refine AW.seq ?_
  refine AW.seq ?_
  refine AW.reg ?_
  refine Lp (V_move rfl rfl) rfl rfl ?_
  refine Lp (V_neq rfl rfl rfl) rfl rfl ?_
  refine Lp (V_move rfl rfl) rfl rfl ?_
  refine Lsplit 5 (!(decide (x24_7 = 0))) [(4, .pointer (some ⟨x4_1, 0, none⟩)), (8, Sl.v x24_5), (35, .bool ((!(decide (x24_7 = 0))) || (!(decide (x24_6 = (x16_2.len : Int))))))] ?_ ?_ ?_
  · intro e2 hk2
    refine Ln rfl rfl rfl rfl (.inl (by rw [e2]; rfl)) ?_
    refine Ln rfl rfl rfl rfl (.inl (by rw [e2]; rfl)) ?_
    refine Ln rfl rfl rfl rfl (.inl (by rw [e2]; rfl)) ?_
    refine Ln rfl rfl rfl rfl (.inl (by rw [e2]; rfl)) ?_
    refine Lp (V_pickT rfl (evb e2) rfl) rfl rfl ?_
    exact hk2 _ (FrLe.cons rfl (FrLe.cons rfl (FrLe.cons (by rw [e2]; rfl) (FrLe.nil _))))
  · intro e2 hk2
    refine Lypb (V_move rfl rfl) rfl rfl rfl rfl e2 ?_
    refine Lypb (V_move rfl rfl) rfl rfl rfl rfl e2 ?_
    refine Lypb (V_lenL rfl rfl Tryz.underlying22 rfl rfl) rfl rfl rfl rfl e2 ?_
    refine Lypb (V_neq rfl rfl rfl) rfl rfl rfl rfl e2 ?_
    refine Lp (V_pickF rfl (evb e2) rfl) rfl rfl ?_
    exact hk2 _ (FrLe.cons rfl (FrLe.cons rfl (FrLe.cons (by rw [e2]; rfl) (FrLe.nil _))))
  intro fr hl
  refine Lfr hl ?_
  refine Lnil ?_
  refine thenN ?_
  refine AW.iff rfl (bor_iff (bnot_iff decide_eq_true_iff) (bnot_iff decide_eq_true_iff)) h (fun h => ?_) (fun h => ?_)
  · refine AW.seq ?_
    refine AW.reg ?_
    refine Lp (V_bld (vs := []) (cs := #[.int .i64 0, .int .i64 0, .int .i64 0]) rfl Tryz.underlying90 ty90 pl90 rfl rfl) rfl rfl ?_
    refine Ls rfl rfl (X_st rfl ty90 rfl rfl rfl rfl (stN_mono h fun σ h => ?_))
    refine Lp (V_asg rfl rfl) rfl rfl ?_
    refine Lnil ?_
    refine thenN ?_
    refine AW.ret ?_
    refine thenR ?_
    obtain ⟨x4_8a, x4_8b, x4_8c, hc0, h⟩ := h
    exact bRM Tryz.results50 (rCons (rAgg rfl Tryz.underlying90 rfl ty90 hc0) (rCons (rTmp rfl) rNil)) ⟨_, _, _, _, rfl, h⟩
  refine AW.skip ?_
  refine thenN ?_
  refine AW.seq ?_
  refine AW.reg ?_
  refine Lp (V_move rfl rfl) rfl rfl ?_
  refine Ls rfl rfl (X_call rfl Tryz.func87 rfl rfl rfl (ACalls.mono h ?_))
  rintro v σ ⟨x38_9, rfl, h⟩
  refine Lp (V_asg rfl rfl) rfl rfl ?_
  refine Lnil ?_
  refine thenN ?_
  refine AW.seq ?_
  refine AW.reg ?_
  refine Lp (V_move rfl rfl) rfl rfl ?_
  refine Ls rfl rfl (X_call rfl Tryz.func88 rfl rfl rfl (ACalls.mono h ?_))
  rintro v σ ⟨x40_10, rfl, h⟩
  refine Lp (V_bld (vs := [(1, .int .i64 x40_10)]) (cs := #[.int .i64 0, .int .i64 0, .int .i64 x40_10]) rfl Tryz.underlying90 ty90 pl90 rfl rfl) rfl rfl ?_
  refine Ls rfl rfl (X_new (A_alloc rfl ty90) fun x11_11 g1 g2 => ?_)
  replace h := h x11_11 g1 g2
  refine Ls rfl rfl (X_st rfl ty90 rfl rfl rfl rfl (stN_mono h fun σ h => ?_))
  refine Lnil ?_
  refine thenN ?_
  refine AW.seq ?_
  refine AW.reg ?_
  refine Lp (V_move rfl rfl) rfl rfl ?_
  refine Ls rfl rfl (X_call rfl Tryz.func88 rfl rfl rfl (ACalls.mono h ?_))
  rintro v σ ⟨x43_12, rfl, h⟩
  refine Lp (V_move rfl rfl) rfl rfl ?_
  refine Ls rfl rfl (X_call rfl Tryz.func88 rfl rfl rfl (ACalls.mono h ?_))
  rintro v σ ⟨x45_13, rfl, h⟩
  refine Lp (V_fld rfl Tryz.underlying90 rfl ty87 (by decide) rfl) rfl rfl ?_
  refine Lp (V_fld rfl Tryz.underlying87 rfl ty3 (by decide) rfl) rfl rfl ?_
  refine Ls rfl rfl (X_st rfl ty3 rfl rfl rfl rfl (stN_mono h fun σ h => ?_))
  refine Lp (V_fld rfl Tryz.underlying90 rfl ty87 (by decide) rfl) rfl rfl ?_
  refine Lp (V_fld rfl Tryz.underlying87 rfl ty3 (by decide) rfl) rfl rfl ?_
  refine Ls rfl rfl (X_st rfl ty3 rfl rfl rfl rfl (stN_mono h fun σ h => ?_))
  refine Lnil ?_
  refine thenN ?_
  refine AW.seqJ (fun fr σ => ∃ (x5_15 : Bool), FrLe [(4, .pointer (some ⟨x4_1, 0, none⟩)), (5, .bool x5_15)] fr ∧ j14_snap_readManifest B ro x4_1 Q x5_15 σ) ?_ ?_
  · rintro fr σ ⟨x5_15, hl, h⟩
    refine AW.weaken ?_ hl (HLe.refl _)
    unfold j14_snap_readManifest at h
    refine AW.ret ?_
    obtain ⟨x4_16a, x4_16b, x4_16c, hc0, h⟩ := h
    exact bRM Tryz.results50 (rCons (rAgg rfl Tryz.underlying90 rfl ty90 hc0) (rCons (rTmp rfl) rNil)) ⟨_, _, _, _, rfl, h⟩
  refine AW.drawnL (fun i => ([0, 0, 2, 0, 0, 0, 2, 0, 0, 2, 0] : List Nat).getD i 2) [(2, 4), (2, 5), (2, 6), (2, 9)] [0, 1, 2, 3, 4, 5, 6, 7, 8, 9, 10] Tryz.mixed h (by decide +kernel) ?_
  clear h
  intro ψ σ h
  obtain ⟨x50_17a, x50_17b, x50_17c, hc, h⟩ := h
  refine Dp rfl rfl rfl rfl (V_lda rfl Tryz.underlying90 rfl ty90 rfl hc) ?_
  refine Dp rfl rfl rfl rfl (V_move rfl rfl) ?_
  refine Dg rfl rfl rfl rfl (X_call rfl Tryz.func89 rfl rfl rfl (ACalls.mono h ?_))
  rintro v σ ⟨x52_18, rfl, h⟩
  refine Dp rfl rfl rfl rfl (V_eql rfl rfl rfl) ?_
  refine Dp rfl rfl rfl rfl (V_move rfl rfl) ?_
  refine splitP (decide (x52_18 = 0)) decide_eq_true_iff h ?_ ?_
  rotate_left
  · intro h e4
    refine Dpn rfl rfl rfl rfl rfl (.inl (by rw [e4]; rfl)) rfl ?_
    refine Dgn rfl rfl rfl rfl rfl (.inl (by rw [e4]; rfl)) rfl ?_
    refine Dpn rfl rfl rfl rfl rfl (.inl (by rw [e4]; rfl)) rfl ?_
    refine Dp rfl rfl rfl rfl (V_pickF rfl (evb e4) rfl) ?_
    refine Dg rfl rfl rfl rfl (X_st rfl ty90 rfl rfl rfl rfl (stN_mono h fun σ h => ?_))
    refine Dp rfl rfl rfl rfl (V_asg rfl rfl) ?_
    refine ⟨_, FrEq.refl _, fun hdj => ?_⟩
    replace h := h hdj
    refine thenN ?_
    exact ⟨_, (FrLe.cons rfl (FrLe.cons rfl (FrLe.nil _))), h⟩
  intro h e4
  refine Dpy rfl rfl rfl rfl rfl e4 rfl (V_move rfl rfl) ?_
  refine Dgy rfl rfl rfl rfl rfl e4 rfl (X_call rfl Tryz.func90 rfl rfl rfl (ACalls.mono h ?_))
  rintro v σ ⟨x56_19, rfl, h⟩
  refine Dpy rfl rfl rfl rfl rfl e4 rfl (V_eql rfl rfl rfl) ?_
  refine Dp rfl rfl rfl rfl (V_pickT rfl (evb e4) rfl) ?_
  refine Dg rfl rfl rfl rfl (X_st rfl ty90 rfl rfl rfl rfl (stN_mono h fun σ h => ?_))
  refine Dp rfl rfl rfl rfl (V_asg rfl rfl) ?_
  refine ⟨_, FrEq.refl _, fun hdj => ?_⟩
  replace h := h hdj
  refine thenN ?_
  exact ⟨_, (FrLe.cons rfl (FrLe.cons rfl (FrLe.nil _))), h⟩

end Go.Proofs.YtfobjidchipdaaaGreatDoor.G

/- Snapshots, the walk: names, the manifest, a snapshot loaded. -/
namespace Go.Proofs.YtfobjidchipdaaaGreatDoor.Wi
open Go Go.Proofs.YtfobjidchipdaaaGreatDoor.SL
theorem Tail.del {tag : Nat → Nat} {σ : AH} {q b x : Nat} {s : Sl} {l : Str} (h : Tail tag σ q s l) (hb : tag b = x) (hq : q ≠ x) : Tail tag (SL.del σ b) q s l := by
  rcases h with h | ⟨g, cs, k, h1, h2, h3, h4⟩
  · exact .inl h
  · exact .inr ⟨g, cs, k, h1, h2, by unfold SL.del; rw [if_neg (fun e => hq (by rw [← h2, e, hb]))]; exact h3, h4⟩
theorem RdAt.del {tag : Nat → Nat} {σ : AH} {r A b x : Nat} {y : Rd} (h : RdAt tag σ r A y) (hb : tag b = x) (hr : r ≠ x) (h6 : 6 ≠ x) : RdAt tag (SL.del σ b) r A y := by
  obtain ⟨s, h1, h2, h3⟩ := h
  exact ⟨s, h1.del hb hr, h2.del hb h6, h3⟩
end Go.Proofs.YtfobjidchipdaaaGreatDoor.Wi
namespace Go.Proofs.YtfobjidchipdaaaGreatDoor.Sn
open Go Go.Proofs.YtfobjidchipdaaaGreatDoor.SL Go.Proofs.YtfobjidchipdaaaGreatDoor.G Go.Proofs.YtfobjidchipdaaaGreatDoor.Pa Go.Proofs.YtfobjidchipdaaaGreatDoor.Wi Go.Proofs.YtfobjidchipdaaaGreatDoor.Dk
set_option linter.unusedSimpArgs false
set_option linter.unusedVariables false
set_option maxRecDepth 100000
variable {B : World} {ro σ σ' : AH} {tag tag' : Nat → Nat}
theorem dec1 {k : Nat} (h : k < 10) : Lib.decDigits k = [UInt8.ofNat (48 + k)] := by rw [Lib.decDigits, dif_pos h]
/-- the file of the snapshot with the number k, the manifest's file, the one ahead of it -/
def dfile (k : Nat) : Str := [115, 46, 115, UInt8.ofNat (48 + k)]
def manN : Str := [115, 46, 109, 97, 110]
def tmpN : Str := [115, 46, 116, 109, 112]
def man (k : Nat) (d : Str) : Str := frame (nums [(k : Int), (d.length : Int), (crc d : Int)])
theorem rightS_ok {Q : Bool → AH → Prop} (hQ : Q true σ) : c_snap_rightName B ro (S [115]) σ Q := by
  refine snap_rightName_ok fun _ => ?_
  unfold f_snap_rightName
  rw [if_pos (by refine ⟨?_, by decide⟩; rw [show (⟨#[]⟩ : ByteArray) = S [] from rfl, S_inj]; simp)]
  refine trim_ok (cs := [97, 98, 99, 100, 101, 102, 103, 104, 105, 106, 107, 108, 109, 110, 111, 112, 113, 114, 115, 116, 117, 118, 119, 120, 121, 122, 48, 49, 50, 51, 52, 53, 54, 55, 56, 57, 45]) (by decide) (by decide) (by decide) ?_
  unfold j1_snap_rightName
  rw [show Lib.trimS [115] _ = [] from by decide]
  exact hQ
theorem dataFile_ok {k : Nat} {Q : ByteArray → AH → Prop} (g : Glob ro) (hk : k < 10) (hQ : Q (S (dfile k)) σ) : c_snap_dataFile B ro (S [115]) (k : Int) σ Q := by
  refine snap_dataFile_ok fun _ => ?_
  unfold f_snap_dataFile
  refine ⟨by decide, itoa_ok g (by omega) ⟨?_, ?_⟩⟩
  · rw [dec1 hk, show (⟨#[46, 115]⟩ : ByteArray) = S [46, 115] from rfl, S_append, S_size', S_size']; simp
  · rw [dec1 hk, show (⟨#[46, 115]⟩ : ByteArray) = S [46, 115] from rfl, S_append, S_append]; exact hQ
theorem digestOf_ok {s : Sl} {l : Str} {Q : Int → Int → AH → Prop} (hx : ∀ tag' σ', Step [] ro tag σ tag' σ' → SL.Read ro σ' s (l.map vU)) (hl : l.length < 4611686018427387904) (hQ : ∀ tag' σ', Step [0] ro tag σ tag' σ' → Q (l.length : Nat) (crc l : Nat) σ') : c_snap_digestOf B ro s σ Q := by
  refine snap_digestOf_ok fun hs => ?_
  unfold f_snap_digestOf
  have hln : s.len = l.length := by have := (hx tag σ (Step.refl hs)).1; rw [this, List.length_map]
  refine nw_cells (tag := tag) 0 hs fun x tag1 σ1 st1 r1 => ?_
  refine sum_ok (hx _ _ (st1 [])) hl ?_
  refine r1.stAll (st1 []).sep rfl (by simp [storable]) fun σ2 st2 r2 => ?_
  obtain ⟨p, hp, hg⟩ := r2.ptr st2.sep (by simp)
  cases hp
  refine ⟨(s.len : Int), (crc l : Nat), cellsAt_of 0 fun j v hj => by have := hg j v hj; rwa [Nat.mul_one, ← Nat.zero_add j] at this, ?_⟩
  rw [hln]
  exact hQ tag1 σ2 ((st1 _).trans st2)
theorem rightN_nat {n : Nat} (h : n < 4611686018427387904) : rightN (n : Int) = true := by unfold rightN; simp; omega
theorem man_right {k : Nat} {d : Str} (hk : k < 4611686018427387904) (hd : d.length < 4611686018427387904) : [(k : Int), (d.length : Int), (crc d : Int)].all rightN = true := by
  have := crc_lt d
  simp [rightN_nat hk, rightN_nat hd, rightN_nat (n := crc d) (by omega)]
theorem man_len {k : Nat} {d : Str} (hk : k < 4611686018427387904) (hd : d.length < 4611686018427387904) : (nums [(k : Int), (d.length : Int), (crc d : Int)]).length ≤ 27 := by
  have := nums_len (man_right hk hd); simpa using this
theorem mbytes_ok {k q : Nat} {d : Str} {Q : Sl → AH → Prop} (hq : q ≠ 0 ∧ q ≠ 1 ∧ q ≠ 3 ∧ q ≠ 7) (hk : k < 4611686018427387904) (hd : d.length < 4611686018427387904) (hQ : ∀ s' tag' σ', Step [1, q] ro tag σ tag' σ' → Row tag' σ' q 5 s' ((man k d).map vU) → Q s' σ') : c_snap_manifest_bytes B ro (d.length : Int) (crc d : Int) (k : Int) σ Q := by
  refine snap_manifest_bytes_ok fun hs => ?_
  unfold f_snap_manifest_bytes
  refine nw_cells (tag := tag) 7 hs fun x tag1 σ1 st1 r1 => ?_
  obtain ⟨p, hp, hg⟩ := r1.ptr (st1 []).sep (by simp)
  cases hp
  refine ⟨_, hg 2 _ rfl, _, hg 0 _ rfl, _, hg 1 _ rfl, ?_⟩
  refine nw_cells (tag := tag1) 3 (st1 []).sep fun y tag2 σ2 st2 r2 => ?_
  refine numbers_ok (tag := tag2) (q := 1) (ns := [(k : Int), (d.length : Int), (crc d : Int)]) (st2 []).sep rfl (by simp) (fun tag' σ' st => (r2.keep st (by decide)).read st.sep) (fun h => by rw [man_right hk hd] at h; cases h) fun _ s3 tag3 σ3 st3 r3 => ?_
  have hl := man_len hk hd
  refine frame_ok (tag := tag3) (q := q) hq.1 st3.sep (by rw [r3.len, List.length_map]) (fun tag' σ' st => (r3.keep st (by simp)).read st.sep) (fun h => by omega) fun _ s4 tag4 σ4 st4 r4 => ?_
  exact hQ s4 tag4 σ4 ((st1 _).trans ((st2 _).trans ((st3.mono (by simp)).trans (st4 _ (by simp))))) r4
theorem unframe_man {k : Nat} {d : Str} (hk : k < 4611686018427387904) (hd : d.length < 4611686018427387904) : unframe (man k d) = (nums [(k : Int), (d.length : Int), (crc d : Int)], (man k d).length, 0) := by
  have := unframe_frame (p := nums [(k : Int), (d.length : Int), (crc d : Int)]) (by have := man_len hk hd; omega) []
  rw [List.append_nil] at this
  unfold man
  rw [this, frame_len]
theorem readManifest_ok {r T M : Nat} {cap : Int} {ps : Ps} {Q : Int → Int → Int → Bool → AH → Prop} (h : Disk tag σ r T M cap ps) (hr : r < 64) (hr0 : r ≠ 0) (hbl : ∀ p ∈ ps, p.2.2.b.length ≤ 140737488355328)
    (hno : ps.lookup manN = none → ∀ tag' σ', StepS [0, 7] ro tag σ tag' σ' → Q 0 0 0 false σ')
    (hyes : ∀ b k d n, ps.lookup manN = some (b, ⟨man k d, n⟩) → k < 4611686018427387904 → d.length < 4611686018427387904 → ∀ tag' σ', StepS [0, 7, 8, 31] ro tag σ tag' σ' → Q (d.length : Nat) (crc d : Nat) (k : Nat) true σ')
    (hgood : ps.lookup manN = none ∨ ∃ b k d n, ps.lookup manN = some (b, ⟨man k d, n⟩) ∧ k < 4611686018427387904 ∧ d.length < 4611686018427387904) : c_snap_readManifest B ro (some ⟨T, 0, none⟩) (S [115]) σ Q := by
  refine snap_readManifest_ok fun hs => ?_
  unfold f_snap_readManifest
  refine nw_cells (tag := tag) 7 hs fun x tag1 σ1 st1 r1 => ?_
  refine ⟨by decide, ?_⟩
  rw [show (⟨#[46, 109, 97, 110]⟩ : ByteArray) = S [46, 109, 97, 110] from rfl, S_append]
  refine read_ok (n := manN) (h.keep (st1 []) (by simp)) hr hr0 (st1 []).sep hbl ?_ ?_
  · rintro e tag2 σ2 he st2
    have hne : ¬ e = 0 := by rcases he with ⟨_, rfl⟩ | ⟨_, _, rfl⟩ <;> decide
    rw [if_pos hne]
    refine (r1.keep st2 (by decide)).stAll st2.sep rfl (by simp [storable]) fun σ3 st3 r3 => ?_
    obtain ⟨p, hp, hg⟩ := r3.ptr st3.sep (by simp)
    cases hp
    refine ⟨0, 0, 0, cellsAt_of 0 fun j v hj => by have := hg j v hj; rwa [Nat.mul_one, ← Nat.zero_add j] at this, ?_⟩
    refine hno ?_ tag2 σ3 (((st1 []).s (by simp)).trans ((st2.s (by decide)).trans (st3.s (by decide))))
    rcases he with ⟨h1, _⟩ | ⟨_, h2, _⟩
    · exact absurd h1 (by decide)
    · exact h2
  · intro _ b f hb s2 tag2 σ2 st2 r2
    rw [if_neg (by decide)]
    obtain ⟨b', k, d, n, hlk, hk, hd⟩ := hgood.resolve_left (by rw [hb]; simp)
    rw [hb] at hlk
    obtain ⟨rfl, rfl⟩ : b = b' ∧ f = ⟨man k d, n⟩ := by simpa using hlk
    have hun := unframe_man hk hd
    have hml := man_len hk hd
    have hmn : (man k d).length ≤ 35 := by unfold man; rw [frame_len]; omega
    have r2 : Row tag2 σ2 6 5 s2 ((man k d).map vU) := r2
    have hsl : s2.len = (man k d).length := by rw [r2.len, List.length_map]
    refine unframe_ok (tag := tag2) (k := 0) (l := man k d) st2.sep (by have := r2.capAt; rw [List.length_map] at this; omega) (Nat.zero_le _) (by omega) (fun tag' σ' st => (r2.keep st (by simp)).read st.sep) ?_ ?_
    · intro he; rw [List.drop_zero, hun] at he; exact absurd rfl he
    · intro _ s3 tag3 σ3 st3 r3
      rw [List.drop_zero, hun] at r3 ⊢
      rw [if_neg (by simp [hsl])]
      have r3 : Row tag3 σ3 6 5 s3 ((nums [(k : Int), (d.length : Int), (crc d : Int)]).map vU) := r3
      have hp1 := r3.read (st3 []).sep
      refine newReader_ok (tag := tag3) (r := 31) hp1 (st3 []).sep (by omega) fun A tag4 σ4 st4 rd4 => ?_
      refine rdNum_ok rd4 (by decide) (st4 []).sep fun σ5 st5 rd5 => ?_
      have e1 : nums [(k : Int), (d.length : Int), (crc d : Int)] = vput k ++ (vput d.length ++ (vput (crc d) ++ [])) := by
        unfold nums; simp
      have hc := crc_lt d
      rw [e1, rnum_put hk] at rd5 ⊢
      refine nw_cells (tag := tag4) 8 st5.sep fun y tag6 σ6 st6 r6 => ?_
      refine r6.stAll (st6 []).sep rfl (by simp [storable]) fun σ7 st7 r7 => ?_
      have rd7 := (rd5.keep (st6 []) (by simp) (by simp)).keep st7 (by decide) (by decide)
      refine rdNum_ok rd7 (by decide) st7.sep fun σ8 st8 rd8 => ?_
      rw [rnum_put hd] at rd8 ⊢
      refine rdNum_ok rd8 (by decide) st8.sep fun σ9 st9 rd9 => ?_
      rw [rnum_put (by omega)] at rd9 ⊢
      have r9 := (r7.keep st8 (by decide)).keep st9 (by decide)
      show stN ((⟨y, 0, none⟩ : Addr).add (0 * 1)) _ _ _ _
      refine r9.st st9.sep rfl (by simp) rfl fun σ10 st10 r10 => ?_
      show stN ((⟨y, 0, none⟩ : Addr).add (1 * 1)) _ _ _ _
      refine r10.st st10.sep rfl (by simp) rfl fun σ11 st11 r11 => ?_
      have hs11 := st11.sep
      have rd11 := (rd9.keep st10 (by decide) (by decide)).keep st11 (by decide) (by decide)
      have st47 : StepS [0, 7, 8, 31] ro tag1 σ1 tag6 σ11 := (st2.s (by decide)).trans (((st3 []).s (by simp)).trans (((st4 []).s (by simp)).trans ((st5.s (by decide)).trans (((st6 []).s (by simp)).trans ((st7.s (by decide)).trans ((st8.s (by decide)).trans ((st9.s (by decide)).trans ((st10.s (by decide)).trans (st11.s (by decide))))))))))
      have stR : Step [0, 8, 31] ro tag1 σ1 tag6 σ11 := (st2.mono (by decide)).trans ((st3 _).trans ((st4 _).trans ((st5.mono (by decide)).trans ((st6 _).trans ((st7.mono (by decide)).trans ((st8.mono (by decide)).trans ((st9.mono (by decide)).trans ((st10.mono (by decide)).trans (st11.mono (by decide))))))))))
      have rx := r1.keep stR (by decide)
      obtain ⟨tY, hY⟩ := r11.tagOf
      refine lent_block y ?_
      have hsL : SL.Sep (join ro (SL.one σ11 y)) (SL.del σ11 y) := hs11.lent
      have cY : ∀ τ i v, [Value.int .i64 (d.length : Nat), .int .i64 (crc d : Nat), .int .i64 (k : Nat)][i]? = some v → acell (join ro (SL.one σ11 y)) τ ((⟨y, 0, none⟩ : Addr).add i) = some v := fun τ i v hv => by
        have := r11.lend hs11 (τ := τ) (i := i) (v := v) hv
        rwa [Nat.mul_one] at this
      refine ⟨(d.length : Nat), (crc d : Nat), (k : Nat), cellsAt_of 0 fun i v hv => by rw [Nat.zero_add]; exact cY _ i v hv, ?_⟩
      refine rerr_ok (rd11.del tY (by decide) (by decide)) hsL ?_
      rw [if_pos rfl]
      refine left_ok (rd11.del tY (by decide) (by decide)) hsL ?_
      refine (rx.del tY (by decide)).stAll hsL rfl (by simp [storable]) fun σ12 st12 r12 => ?_
      intro hdis
      have stB := st12.back hs11 hdis hY
      have r13 := r12.back (r' := tag6 y) hdis hY
      unfold j14_snap_readManifest
      obtain ⟨p, hp, hg⟩ := r13.ptr stB.sep (by simp)
      cases hp
      refine ⟨_, _, _, cellsAt_of 0 fun j v hj => by have := hg j v hj; rwa [Nat.mul_one, ← Nat.zero_add j] at this, ?_⟩
      exact hyes b k d n hb hk hd _ _ (((st1 []).s (by simp)).trans (st47.trans (stB.s (by decide))))
end Go.Proofs.YtfobjidchipdaaaGreatDoor.Sn
