/- R7H, R7I, SoC, SoE, ReD, ReE, R7L, R7P, R7Q, R7S, ReF -/
import Derived.Test.YtomdigihapdhnaaGreatDoorXK
/- The document's bytes: Put, Join, Blob. -/
namespace Go.Proofs.YtomdigihapdhnaaGreatDoor.SL
open Go
variable {ro σ σ' σ1 : AH} {tag tag' tag1 : Nat → Nat}
/-- what was made anew in role 1, all else of role 0: as it stands beside any roles -/
theorem fresh_step {x : Nat} (hx : x ≠ 0) (st : Step [x] ro (fun _ => 0) σ tag1 σ1) (tag : Nat → Nat) (y : Nat) :
    ∃ tag', (∀ R, Step R ro tag σ tag' σ1) ∧ ∀ e s l, Row tag1 σ1 x e s l → Row tag' σ1 y e s l := by
  refine ⟨fun c => if (σ c).isSome then tag c else y, fun R => ⟨fun b o hb _ => ⟨by simp [hb], ?_⟩, fun b o hb => ⟨by simp [hb], o, ?_⟩, st.sep⟩, fun e s l h => ?_⟩
  · exact (st.keep b o hb (by simp; omega)).2
  · exact (st.keep b o hb (by simp; omega)).2
  · rcases h with h | ⟨b, cs, ha, ht, hb, hx'⟩
    · exact .inl h
    · refine .inr ⟨b, cs, ha, ?_, hb, hx'⟩
      cases e : σ b with
      | none => simp [e]
      | some o =>
        have := (st.old b o e).1
        rw [ht] at this; exact absurd this hx
theorem Read.fresh {x : Nat} {s : Sl} {l : List Value} (hx : x ≠ 0) (h : Read ro σ s l) (st : Step [x] ro (fun _ => 0) σ tag1 σ1) : Read ro σ1 s l := by
  obtain ⟨tg, k, _⟩ := fresh_step hx st (fun _ => 0) 0
  exact h.step (k [])
end Go.Proofs.YtomdigihapdhnaaGreatDoor.SL
namespace Go.Proofs.YtomdigihapdhnaaGreatDoor.Zt
open Go Go.Proofs.YtomdigihapdhnaaGreatDoor.SL Go.Proofs.YtomdigihapdhnaaGreatDoor.G Go.Proofs.YtomdigihapdhnaaGreatDoor.Pa Go.Proofs.YtomdigihapdhnaaGreatDoor.Wi
set_option linter.unusedSimpArgs false
set_option linter.unusedVariables false
variable {B : World} {ro σ σ' : AH} {tag tag' : Nat → Nat}

set_option maxRecDepth 100000 in
theorem rput_ok {x : Int} {Q : Sl → AH → Prop} (h0 : 0 ≤ x) (hx : x ≤ 4611686018427387903) (hQ : ∀ s tag' σ', (∀ R, Step R ro tag σ tag' σ') → Row tag' σ' 6 5 s ((vput x.toNat).map vU) → Q s σ') : c_ref01_Put B ro x σ Q := by
  refine ref01_Put_ok fun hs => ?_
  unfold f_ref01_Put
  refine nw_cells (tag := fun _ => 0) 1 hs fun b tag1 σ1 st1 r1 => ?_
  have fin : ∀ s tag2 σ2, Step [1] ro (fun _ => 0) σ tag2 σ2 → Row tag2 σ2 1 5 s ((vput x.toNat).map vU) → Q s σ2 := fun s tag2 σ2 st2 r2 => by
    obtain ⟨tg, k1, k2⟩ := fresh_step (by decide) st2 tag 6
    exact hQ s tg σ2 k1 (k2 _ _ _ r2)
  suffices ∀ (m : Nat) (n : Nat) (acc : Str) (s : Sl) tag2 σ2, n < 128 ^ (m + 1) → n ≤ 4611686018427387903 → acc.length + m ≤ 20 → acc ++ vput n = vput x.toNat → Step [1] ro (fun _ => 0) σ tag2 σ2 → Row tag2 σ2 1 5 s (acc.map vU) → lfpD (l7_ref01_Put B ro Q) ((n : Int), s) σ2 by
    have := this 10 x.toNat [] _ tag1 σ1 (by omega) (by omega) (by simp) rfl (st1 _) r1
    rwa [Int.toNat_of_nonneg h0] at this
  intro m
  induction m with
  | zero =>
    intro n acc s tag2 σ2 hn hn2 hl he st2 r2
    refine lfpD.intro ?_
    unfold l7_ref01_Put
    simp only
    rw [if_neg (by omega)]
    unfold j2_ref01_Put
    refine nw_cells (tag := tag2) 0 st2.sep fun c tag3 σ3 st3 r3 => ?_
    refine awp_append1 (r2.keep (st3 []) (by simp)) (st3 []).sep u30 ty5 rfl rfl (Row.cell1 r3 (st3 []).sep) rfl (by rw [List.length_map]; omega) (by decide) fun s' tag4 σ4 st4 r4 => ?_
    refine ⟨s', rfl, fin s' tag4 σ4 (st2.trans ((st3 _).trans st4)) ?_⟩
    rw [← he]
    unfold vput
    rw [if_pos (by omega), List.map_append]
    have : IntKind.u8.wrap (n : Int) = ((UInt8.ofNat n).toNat : Int) := by
      rw [u8_of n (by omega)]
      simp [IntKind.wrap, IntKind.signed, IntKind.bits]; omega
    rw [this] at r4
    exact r4
  | succ m ih =>
    intro n acc s tag2 σ2 hn hn2 hl he st2 r2
    refine lfpD.intro ?_
    unfold l7_ref01_Put
    simp only
    by_cases c : 128 ≤ n
    · rw [if_pos (by omega)]
      refine nw_cells (tag := tag2) 0 st2.sep fun c' tag3 σ3 st3 r3 => ?_
      refine awp_append1 (r2.keep (st3 []) (by simp)) (st3 []).sep u30 ty5 rfl rfl (Row.cell1 r3 (st3 []).sep) rfl (by rw [List.length_map]; omega) (by decide) fun s' tag4 σ4 st4 r4 => ?_
      refine ⟨s', rfl, ?_⟩
      have e1 : IntKind.i64.wrap (Int.tdiv (n : Int) 128) = ((n / 128 : Nat) : Int) := by
        rw [Int.tdiv_eq_ediv_of_nonneg (by omega), SL.w64_eq (by omega) (by omega)]; omega
      rw [e1]
      have e2 : IntKind.u8.wrap (IntKind.i64.wrap (128 + (Int.tmod (n : Int) 128))) = ((UInt8.ofNat (n % 128 + 128)).toNat : Int) := by
        rw [u8_of _ (by omega), Int.tmod_eq_emod_of_nonneg (by omega), SL.w64_eq (by omega) (by omega)]
        simp [IntKind.wrap, IntKind.signed, IntKind.bits]; omega
      rw [e2] at r4
      refine ih (n / 128) (acc ++ [UInt8.ofNat (n % 128 + 128)]) s' tag4 σ4 ?_ (by omega) (by simp; omega) ?_ (st2.trans ((st3 _).trans st4)) (by rw [List.map_append]; exact r4)
      · rw [Nat.pow_succ] at hn
        exact Nat.div_lt_of_lt_mul (by omega)
      · rw [← he]
        conv => rhs; unfold vput
        rw [if_neg (by omega), List.append_assoc]; rfl
    · rw [if_neg (by omega)]
      unfold j2_ref01_Put
      refine nw_cells (tag := tag2) 0 st2.sep fun c tag3 σ3 st3 r3 => ?_
      refine awp_append1 (r2.keep (st3 []) (by simp)) (st3 []).sep u30 ty5 rfl rfl (Row.cell1 r3 (st3 []).sep) rfl (by rw [List.length_map]; omega) (by decide) fun s' tag4 σ4 st4 r4 => ?_
      refine ⟨s', rfl, fin s' tag4 σ4 (st2.trans ((st3 _).trans st4)) ?_⟩
      rw [← he]
      unfold vput
      rw [if_pos (by omega), List.map_append]
      have : IntKind.u8.wrap (n : Int) = ((UInt8.ofNat n).toNat : Int) := by
        rw [u8_of n (by omega)]
        simp [IntKind.wrap, IntKind.signed, IntKind.bits]; omega
      rw [this] at r4
      exact r4
set_option maxRecDepth 100000 in
theorem rjoin_ok {a0 : Sl} {ss : List Sl} {ls : List Str} {Q : Sl → AH → Prop} (h : SL.Read ro σ a0 (ss.map Sl.v)) (hl : ls.length = ss.length) (hd : ∀ (i : Nat) (s : Sl) (l : Str), ss[i]? = some s → ls[i]? = some l → SL.Read ro σ s (l.map vU)) (hn : ls.flatten.length ≤ 140737488355328) (hs1 : ss.length ≤ 1000)
    (hQ : ∀ s tag' σ', (∀ R, Step R ro tag σ tag' σ') → Row tag' σ' 6 5 s (ls.flatten.map vU) → Q s σ') : c_ref01_Join B ro a0 σ Q := by
  refine ref01_Join_ok fun hs => ?_
  unfold f_ref01_Join
  refine nw_cells (tag := fun _ => 0) 1 hs fun b tag1 σ1 st1 r1 => ?_
  have ha : a0.len = ss.length := by rw [h.1, List.length_map]
  suffices ∀ (m j : Nat) (s : Sl) tag2 σ2, j + m = ss.length → Step [1] ro (fun _ => 0) σ tag2 σ2 → Row tag2 σ2 1 5 s ((ls.take j).flatten.map vU) → lfpD (l4_ref01_Join B ro a0 Q) (s, (j : Int)) σ2 from
    this _ 0 _ tag1 σ1 (Nat.zero_add _) (st1 _) r1
  intro m
  induction m with
  | zero =>
    intro j s tag2 σ2 hj st2 r2
    refine lfpD.intro ?_
    unfold l4_ref01_Join
    simp only
    rw [if_neg (by omega)]
    unfold j2_ref01_Join
    rw [List.take_of_length_le (by omega)] at r2
    obtain ⟨tg, k1, k2⟩ := fresh_step (by decide) st2 tag 6
    exact hQ s tg σ2 k1 (k2 _ _ _ r2)
  | succ m ih =>
    intro j s tag2 σ2 hj st2 r2
    have hjs : j < ss.length := by omega
    have hjl : j < ls.length := by omega
    have h2 := h.fresh (by decide) st2
    have hd2 := (hd j _ _ (List.getElem?_eq_getElem hjs) (List.getElem?_eq_getElem hjl)).fresh (by decide) st2
    obtain ⟨p, hp⟩ : ∃ p, a0.a = some p := by
      cases e : a0.a with
      | none => have := h.2.1 e; simp at this; rw [this] at hjs; simp at hjs
      | some p => exact ⟨p, rfl⟩
    have hcell := h2.2.2 p hp j (Sl.v ss[j]) (by rw [List.getElem?_map, List.getElem?_eq_getElem hjs]; rfl)
    have etk : (ls.take (j + 1)).flatten = (ls.take j).flatten ++ ls[j] := by
      rw [List.take_add_one, List.getElem?_eq_getElem hjl, List.flatten_append]; simp
    have hlen : (ls.take (j + 1)).flatten.length ≤ ls.flatten.length := by
      conv => rhs; rw [← List.take_append_drop (j + 1) ls, List.flatten_append, List.length_append]
      omega
    rw [etk, List.length_append] at hlen
    refine lfpD.intro ?_
    unfold l4_ref01_Join
    simp only
    rw [if_pos (by omega)]
    refine ⟨p, hp, by omega, by omega, ss[j], by rw [Int.toNat_natCast, Nat.mul_one]; exact hcell, ?_⟩
    refine awp_appendN r2 st2.sep hd2 u30 ty5 rfl (by simp [storable]) (by rw [List.length_map, List.length_map]; omega) (by decide) fun s' tag3 σ3 st3 r3 => ?_
    refine ⟨s', rfl, ?_⟩
    rw [Pa.inc j (by omega)]
    refine ih (j + 1) s' tag3 σ3 (by omega) (st2.trans (st3 _ (.inr (by simp)))) ?_
    rw [etk, List.map_append]; exact r3
theorem rblobp_ok {a0 : Sl} {d : Str} {Q : Sl → AH → Prop} (h : SL.Read ro σ a0 (d.map vU)) (hl : d.length ≤ 70368744177664) (hQ : ∀ s tag' σ', (∀ R, Step R ro tag σ tag' σ') → Row tag' σ' 6 5 s ((blob d).map vU) → Q s σ') : c_ref01_Blob B ro a0 σ Q := by
  refine ref01_Blob_ok fun hs => ?_
  unfold f_ref01_Blob
  have ha : a0.len = d.length := by rw [h.1, List.length_map]
  refine rput_ok (tag := tag) (by omega) (by omega) fun s1 tag1 σ1 st1 r1 => ?_
  rw [ha, Int.toNat_natCast] at r1
  refine nw_cells (tag := tag1) 0 (st1 []).sep fun b tag2 σ2 st2 r2 => ?_
  have hv := (vput_len 8 d.length (by omega)).2
  refine rjoin_ok (tag := tag2) (ss := [s1, a0]) (ls := [vput d.length, d]) (r2.read (st2 []).sep) rfl (fun i s l hs' hl' => ?_) (by simp; omega) (by simp) fun s tag3 σ3 st3 r3 => ?_
  · rcases i with _ | _ | i
    · cases hs'; cases hl'; exact (r1.keep (st2 []) (by simp)).read (st2 []).sep
    · cases hs'; cases hl'; exact (h.step (st1 [])).step (st2 [])
    · cases hs'
  · refine hQ s tag3 σ3 (fun R => (st1 R).trans ((st2 R).trans (st3 R))) ?_
    have : [vput d.length, d].flatten = blob d := by unfold blob; simp
    rw [this] at r3; exact r3
end Go.Proofs.YtomdigihapdhnaaGreatDoor.Zt

/- The document's tree: its bytes. -/
namespace Go.Proofs.YtomdigihapdhnaaGreatDoor.Zt
open Go Go.Proofs.YtomdigihapdhnaaGreatDoor.SL Go.Proofs.YtomdigihapdhnaaGreatDoor.G Go.Proofs.YtomdigihapdhnaaGreatDoor.Pa Go.Proofs.YtomdigihapdhnaaGreatDoor.Wi
set_option linter.unusedSimpArgs false
set_option linter.unusedVariables false
variable {B : World} {ro σ σ' : AH} {tag tag' : Nat → Nat}

theorem upd_upd (σ : AH) (b : Nat) (x y : Obj) : upd (upd σ b x) b y = upd σ b y := by
  funext c; unfold upd; split <;> rfl
theorem awp_s2b {l : Str} {K : Value → AH → Prop} (hs : SL.Sep ro σ) (hK : ∀ s tag' σ', (∀ R, Step R ro tag σ tag' σ') → SL.Read ro σ' s (l.map vU) → K (Sl.v s) σ') : awp Tryz.prog ro (convert 9 24 (.string (S l))) K σ := by
  unfold convert
  simp only [bind_def]
  rw [awp_underlying u9, awp_underlying u30]
  simp only
  rw [awp_underlying u5'']
  simp only
  unfold Conv.stringToBytes
  simp only [bind_def]
  refine awp_choose rfl fun n => ?_
  have hsz : (S l).size = l.length := by rw [← L_len, L_S]
  have hcut : (S l).size ≤ (Question.appendCap (S l).size 0 5).cut n := by simp only [Question.cut]; omega
  generalize (Question.appendCap (S l).size 0 5).cut n = N at hcut
  show ∀ b, ro b = none → σ b = none → awp Tryz.prog ro (Sem.bind (markStringish ⟨b, 0, none⟩) fun _ => Sem.pure (Value.slice (some ⟨b, 0, none⟩) (S l).size N)) K (upd σ b _)
  intro b hro hb
  unfold markStringish
  show ∃ o, rd ro (upd σ b _) b = some o ∧ _
  refine ⟨_, by unfold rd; rw [hro]; exact upd_same _ _ _, ?_⟩
  show (1 : Nat) ≠ 0 ∧ ∃ o, upd σ b _ b = some o ∧ _
  refine ⟨by decide, _, upd_same _ _ _, ?_⟩
  rw [upd_upd]
  refine hK ⟨some ⟨b, 0, none⟩, (S l).size, N⟩ (setTag tag b 6) _ (fun _ => Step.fresh hs hro hb) ⟨by simp [hsz], (fun h => by cases h), fun p hp i v hv => ?_⟩
  cases hp
  have hi : i < l.length := by
    rcases Nat.lt_or_ge i l.length with h | h
    · exact h
    · rw [List.getElem?_eq_none (by simpa using h)] at hv; cases hv
  rw [add_add, Nat.zero_add]
  unfold acell rd
  rw [show ro (⟨b, i, none⟩ : Addr).block = none from hro]
  simp only [upd_same]
  rw [← hv]
  show (Array.map (fun b => Value.int IntKind.u8 (b.toNat : Int)) (S l).data ++ Array.replicate (N - (S l).size) (Value.int IntKind.u8 0))[i]? = _
  rw [Array.getElem?_append_left (by simp [S]; omega)]
  simp [S, vU]
end Go.Proofs.YtomdigihapdhnaaGreatDoor.Zt

/- What holds of a store behind a number of calls: the plain part. -/
namespace Go.Proofs.YtomdigihapdhnaaGreatDoor.Zt
open Go Go.Proofs.YtomdigihapdhnaaGreatDoor.SL Go.Proofs.YtomdigihapdhnaaGreatDoor.Pa Go.Proofs.YtomdigihapdhnaaGreatDoor.Wi
set_option linter.unusedSimpArgs false
set_option linter.unusedVariables false

structure SessOk (b : Nat) (s : Sess) : Prop where
  nonce : okN s.nonce = true
  lease : 1 ≤ s.lease ∧ s.lease ≤ 1048576
  beats : 0 ≤ s.beats ∧ s.beats ≤ b
  req : 0 ≤ s.req ∧ s.req ≤ 4611686018427387903
  reply : s.reply.length ≤ 1048576
structure HouseOk (b : Nat) (h : House) : Prop where
  last : 0 ≤ h.last ∧ h.last ≤ b
  keys : (h.live.map (·.1)).Nodup
  rng : ∀ p ∈ h.live, 1 ≤ p.1 ∧ p.1 ≤ h.last
  non : (h.live.map (·.2.nonce)).Nodup
  len : h.live.length ≤ 64
  ok : ∀ p ∈ h.live, SessOk b p.2
structure DeskOk (b : Nat) (k : Str × Int) (d : Desk) : Prop where
  room : d.events.length + d.marks.length ≤ 32
  last : 0 ≤ d.last ∧ d.last + d.marks.length ≤ b
  evs : ∀ e ∈ d.events, (1 ≤ e.1 ∧ e.1 ≤ d.last) ∧ (1 ≤ e.2.1 ∧ e.2.1 ≤ 4) ∧ e.2.2.length ≤ 128
  ack : 0 ≤ d.acked ∧ d.acked ≤ d.last
  nd : d.marks.Nodup
  mks : ∀ m ∈ d.marks, checkW k m = 0
structure TblOk (b : Nat) (t : Tbl) : Prop where
  keys : (t.map (·.1)).Nodup
  ok : ∀ p ∈ t, nameOk p.1 = true ∧ HouseOk b p.2
  len : t.length ≤ b
structure HubOk (b : Nat) (h : Hub) : Prop where
  keys : (h.map (·.1)).Nodup
  ok : ∀ p ∈ h, DeskOk b p.1 p.2
  len : h.length ≤ b
theorem SessOk.mono {b c : Nat} {s : Sess} (h : SessOk b s) (hc : b ≤ c) : SessOk c s := ⟨h.nonce, h.lease, by have := h.beats; omega, h.req, h.reply⟩
theorem HouseOk.mono {b c : Nat} {h : House} (k : HouseOk b h) (hc : b ≤ c) : HouseOk c h := ⟨by have := k.last; omega, k.keys, k.rng, k.non, k.len, fun p hp => (k.ok p hp).mono hc⟩
theorem DeskOk.mono {b c : Nat} {k : Str × Int} {d : Desk} (h : DeskOk b k d) (hc : b ≤ c) : DeskOk c k d := ⟨h.room, by have := h.last; omega, h.evs, h.ack, h.nd, h.mks⟩
theorem TblOk.mono {b c : Nat} {t : Tbl} (h : TblOk b t) (hc : b ≤ c) : TblOk c t := ⟨h.keys, fun p hp => ⟨(h.ok p hp).1, (h.ok p hp).2.mono hc⟩, by have := h.len; omega⟩
theorem HubOk.mono {b c : Nat} {t : Hub} (h : HubOk b t) (hc : b ≤ c) : HubOk c t := ⟨h.keys, fun p hp => (h.ok p hp).mono hc, by have := h.len; omega⟩

/-! lists of pairs -/
section
variable {κ α : Type} [DecidableEq κ]
end
end Go.Proofs.YtomdigihapdhnaaGreatDoor.Zt

/- Replies are small; what holds of a store holds behind each call: the plain part. -/
namespace Go.Proofs.YtomdigihapdhnaaGreatDoor.Zt
open Go Go.Proofs.YtomdigihapdhnaaGreatDoor.SL Go.Proofs.YtomdigihapdhnaaGreatDoor.Pa Go.Proofs.YtomdigihapdhnaaGreatDoor.Wi
set_option linter.unusedSimpArgs false
set_option linter.unusedVariables false

structure TinyR (x : Rep) : Prop where
  data : x.data.length ≤ 256
  res : ∀ y ∈ x.results, y.1.length ≤ 128
  names : ∀ y ∈ x.names, y.length ≤ 128
  evs : ∀ y ∈ x.events, y.2.2.length ≤ 128
theorem TinyR.small {x : Rep} (h : TinyR x) : SmallR x := ⟨by have := h.data; omega, fun y hy => by have := h.res y hy; omega, fun y hy => by have := h.names y hy; omega, fun y hy => by have := h.evs y hy; omega⟩
theorem vlen {n : Int} (h : rightN n = true) : (vput n.toNat).length ≤ 9 := (vput_len 8 n.toNat (by have := (nat_right h).2; omega)).2
theorem vlenN {n : Nat} (h : n < 4611686018427387904) : (vput n).length ≤ 9 := (vput_len 8 n (by omega)).2
theorem blen {d : Str} {m : Nat} (h : d.length ≤ m) (hm : m < 4611686018427387904) : (blob d).length ≤ 9 + m := by
  unfold blob
  have := vlenN (n := d.length) (by omega)
  rw [List.length_append]; omega
theorem flat_len {α : Type} {f : α → Str} {n : Nat} : ∀ {l : List α}, (∀ y ∈ l, (f y).length ≤ n) → (l.flatMap f).length ≤ n * l.length
  | [], _ => by simp
  | y :: l, h => by
    have h1 := flat_len (l := l) fun z hz => h z (by simp [hz])
    have h2 := h y (by simp)
    rw [List.flatMap_cons, List.length_append, List.length_cons, Nat.mul_add]
    omega
/-! what transactions answer -/
end Go.Proofs.YtomdigihapdhnaaGreatDoor.Zt

/- Replies as bytes: the document's PutReply. -/
namespace Go.Proofs.YtomdigihapdhnaaGreatDoor.Zt
open Go Go.Proofs.YtomdigihapdhnaaGreatDoor.SL Go.Proofs.YtomdigihapdhnaaGreatDoor.G Go.Proofs.YtomdigihapdhnaaGreatDoor.Pa Go.Proofs.YtomdigihapdhnaaGreatDoor.Wi
set_option linter.unusedSimpArgs false
set_option linter.unusedVariables false
set_option maxRecDepth 100000
variable {B : World} {ro σ σ' : AH} {tag tag' : Nat → Nat}

theorem RepD.hle {rs ds ns es : Sl} {x : Rep} (h : RepD ro σ rs ds ns es x) (k : HLe σ σ') : RepD ro σ' rs ds ns es x := ⟨SL.ReadW.hle h.res k, h.data.hle k, h.names.hle k, SL.ReadW.hle h.evs k⟩
theorem RepD.all {τ : AH} {rs ds ns es : Sl} {x : Rep} (h : RepD ro σ rs ds ns es x) (hs : SL.Sep ro σ) : RepD (join ro σ) τ rs ds ns es x := ⟨SL.ReadW.all h.res hs, h.data.all hs, h.names.all hs, SL.ReadW.all h.evs hs⟩
theorem rbad_ok {a0 : Sl} {l : List Int} {Q : Bool → AH → Prop} (h : SL.Read ro σ a0 (l.map vI)) (hl : l.length < 4611686018427387904) (hQ : Q (!l.all rightN) σ) : c_ref17_bad B ro a0 σ Q := by
  refine ref17_bad_ok fun _ => ?_
  unfold f_ref17_bad
  have hln : a0.len = l.length := by rw [h.1, List.length_map]
  suffices ∀ k j, j + k = l.length → (l.take j).all rightN = true → lfpD (l2_ref17_bad B ro a0 Q) (j : Int) σ from this _ 0 (Nat.zero_add _) (by simp)
  intro k
  induction k with
  | zero =>
    intro j hj hall
    refine lfpD.intro ?_
    unfold l2_ref17_bad
    rw [if_neg (by omega)]
    unfold j1_ref17_bad
    rw [List.take_of_length_le (by omega)] at hall
    rw [hall] at hQ; exact hQ
  | succ k ih =>
    intro j hj hall
    have hjl : j < l.length := by omega
    obtain ⟨p, hp, hg⟩ := h.ptr (by simp; omega)
    refine lfpD.intro ?_
    unfold l2_ref17_bad
    rw [if_pos (by omega)]
    refine ⟨p, hp, by omega, by omega, l[j], ?_, ?_⟩
    · rw [Int.toNat_natCast, Nat.mul_one]
      exact hg j _ (by rw [List.getElem?_map, List.getElem?_eq_getElem hjl]; rfl)
    refine ref01_Bad_ok fun _ => ?_
    unfold f_ref01_Bad
    have e : ((decide (l[j] < 0)) || (decide (4611686018427387903 < l[j]))) = !rightN l[j] := by
      unfold rightN
      by_cases h1 : l[j] < 0 <;> by_cases h2 : 4611686018427387903 < l[j] <;> simp [h1, h2] <;> omega
    rw [e]
    dsimp only
    cases hr : rightN l[j] with
    | false =>
      rw [if_pos (show (!false) = true from rfl)]
      have : l.all rightN = false := by
        rw [List.all_eq_false]
        exact ⟨l[j], List.getElem_mem hjl, by simp [hr]⟩
      rw [this] at hQ; exact hQ
    | true =>
      rw [if_neg (by simp), Pa.inc j (by omega)]
      refine ih (j + 1) (by omega) ?_
      rw [List.take_add_one, List.getElem?_eq_getElem hjl, List.all_append, hall]
      simp [hr]
def numsE (l : List Int) : Str := l.flatMap fun n => vput n.toNat
theorem numsE_len {l : List Int} (h : l.all rightN = true) : (numsE l).length ≤ 9 * l.length := by
  induction l with
  | nil => simp [numsE]
  | cons n l ih =>
    rw [List.all_cons, Bool.and_eq_true] at h
    have := ih h.2
    have := vlen h.1
    unfold numsE at *
    rw [List.flatMap_cons, List.length_append, List.length_cons]; omega
where
  vlen {n : Int} (h : rightN n = true) : (vput n.toNat).length ≤ 9 := (vput_len 8 n.toNat (by have := (nat_right h).2; omega)).2
theorem rnums_ok {a0 : Sl} {l : List Int} {Q : Sl → AH → Prop} (h : SL.Read ro σ a0 (l.map vI)) (hl : l.length ≤ 1000) (hr : l.all rightN = true) (hQ : ∀ s tag' σ', (∀ R, Step R ro tag σ tag' σ') → Row tag' σ' 6 5 s ((numsE l).map vU) → Q s σ') : c_ref17_nums B ro a0 σ Q := by
  refine ref17_nums_ok fun hs => ?_
  unfold f_ref17_nums
  have hln : a0.len = l.length := by rw [h.1, List.length_map]
  refine nw_cells (tag := T7) 5 hs fun y tag1 σ1 st1 r1 => ?_
  suffices ∀ k j (out : Sl) tag2 σ2, j + k = l.length → StepS [5] ro T7 σ tag2 σ2 → Row tag2 σ2 5 5 out ((numsE (l.take j)).map vU) → lfpD (l4_ref17_nums B ro a0 Q) (out, (j : Int)) σ2 from
    this _ 0 _ tag1 σ1 (Nat.zero_add _) ((st1 []).s (by simp)) (by simpa [numsE] using r1)
  intro k
  induction k with
  | zero =>
    intro j out tag2 σ2 hj s2 r2
    refine lfpD.intro ?_
    unfold l4_ref17_nums
    simp only
    rw [if_neg (by omega)]
    unfold j2_ref17_nums
    rw [List.take_of_length_le (by omega)] at r2
    obtain ⟨tg, k1, k2⟩ := fresh_row (r := 5) (fun R => by
      have := s2.mix (by decide) T7 R
      have e : mixT σ T7 tag2 = tag2 := by
        funext c; unfold mixT
        cases hc : σ c with
        | none => rfl
        | some o => simp [s2.old7 hc]
      rw [e] at this; exact this) (by decide) tag 6
    exact hQ out tg σ2 k1 (k2 _ _ _ r2)
  | succ k ih =>
    intro j out tag2 σ2 hj s2 r2
    have hjl : j < l.length := by omega
    have h2 := h.hle (s2.hle (by decide))
    obtain ⟨p, hp, hg⟩ := h2.ptr (by simp; omega)
    have hrj : rightN l[j] = true := List.all_eq_true.1 hr _ (List.getElem_mem hjl)
    have hr2 := rightN_iff.1 hrj
    refine lfpD.intro ?_
    unfold l4_ref17_nums
    simp only
    rw [if_pos (by omega)]
    refine ⟨p, hp, by omega, by omega, l[j], ?_, ?_⟩
    · rw [Int.toNat_natCast, Nat.mul_one]
      exact hg j _ (by rw [List.getElem?_map, List.getElem?_eq_getElem hjl]; rfl)
    refine rput_ok (tag := tag2) hr2.1 hr2.2 fun s3 tag3 σ3 st3 r3 => ?_
    have hlen : (numsE (l.take j)).length ≤ 9 * 1000 := by
      have h1 := numsE_len (l := l.take j) (by rw [List.all_eq_true]; exact fun n hn => List.all_eq_true.1 hr n (List.mem_of_mem_take hn))
      rw [List.length_take] at h1; omega
    have hv := numsE_len.vlen hrj
    refine awp_appendN (r2.keep (st3 []) (by simp)) (st3 []).sep (r3.read (st3 []).sep) u30 ty5 rfl (by simp [storable]) (by rw [List.length_map, List.length_map]; omega) (by decide) fun s4 tag4 σ4 st4 r4 => ?_
    refine ⟨s4, rfl, ?_⟩
    rw [Pa.inc j (by omega)]
    have e : numsE (l.take (j + 1)) = numsE (l.take j) ++ vput l[j].toNat := by
      unfold numsE
      rw [List.take_add_one, List.getElem?_eq_getElem hjl, List.flatMap_append]; simp
    refine ih (j + 1) s4 tag4 σ4 (by omega) (s2.trans (((st3 []).s (by simp)).trans ((st4 _ (.inr (by simp : 5 ∈ [5]))).s (by simp)))) ?_
    rw [e, List.map_append]; exact r4
theorem joinq {q : Nat} {a0 : Sl} {ss : List Sl} {ls : List Str} {Q : Sl → AH → Prop} (h : SL.Read ro σ a0 (ss.map Sl.v)) (hl : ls.length = ss.length) (hd : ∀ (i : Nat) (s : Sl) (l : Str), ss[i]? = some s → ls[i]? = some l → SL.Read ro σ s (l.map vU)) (hn : ls.flatten.length ≤ 140737488355328) (hs1 : ss.length ≤ 1000)
    (hQ : ∀ s tag' σ', (∀ R, Step R ro tag σ tag' σ') → Row tag' σ' q 5 s (ls.flatten.map vU) → Q s σ') : c_ref01_Join B ro a0 σ Q :=
  rjoin_ok (tag := T7) h hl hd hn hs1 fun s tag1 σ1 st r => by
    obtain ⟨tg, k1, k2⟩ := fresh_row (r := 6) st (by decide) tag q
    exact hQ s tg σ1 k1 (k2 _ _ _ r)
def pre2 (x : Rep) : Str := vput x.code.toNat ++ (vput x.session.toNat ++ vput x.results.length)
def pre3 (x : Rep) : Str := pre2 x ++ encRes x.results ++ (vput (x.bad + 1).toNat ++ (blob x.data ++ (numsE [x.ver, x.ctr, x.own, x.kids] ++ vput x.names.length)))
def pre4 (x : Rep) : Str := pre3 x ++ x.names.flatMap blob ++ vput x.events.length
theorem encRep_pre (x : Rep) : encRep x = pre4 x ++ encEvs x.events ++ vput x.epoch.toNat := by
  unfold encRep pre4 pre3 pre2 numsE
  simp only [List.flatMap_cons, List.flatMap_nil, List.append_assoc, List.append_nil]
theorem encRes_len {l : List (Str × Int)} (h : ∀ y ∈ l, rightN y.2 = true ∧ y.1.length ≤ 1048576) : (encRes l).length ≤ 1048594 * l.length := Zt.flat_len fun y hy => by
  rw [List.length_append]
  have := vlen (h y hy).1
  have := blen (h y hy).2 (by decide)
  omega
theorem encEvs_len {l : List (Int × Int × Str)} (h : ∀ y ∈ l, (rightN y.1 = true ∧ rightN y.2.1 = true) ∧ y.2.2.length ≤ 1048576) : (encEvs l).length ≤ 1048603 * l.length := Zt.flat_len fun y hy => by
  rw [List.length_append, List.length_append]
  have := vlen (h y hy).1.1
  have := vlen (h y hy).1.2
  have := blen (h y hy).2 (by decide)
  omega
theorem blobs_len {l : List Str} (h : ∀ y ∈ l, y.length ≤ 1048576) : (l.flatMap blob).length ≤ 1048585 * l.length := Zt.flat_len fun y hy => by
  have := blen (h y hy) (by decide)
  omega
end Go.Proofs.YtomdigihapdhnaaGreatDoor.Zt

/- Replies as bytes: the document's PutReply, on. -/
namespace Go.Proofs.YtomdigihapdhnaaGreatDoor.Zt
open Go Go.Proofs.YtomdigihapdhnaaGreatDoor.SL Go.Proofs.YtomdigihapdhnaaGreatDoor.G Go.Proofs.YtomdigihapdhnaaGreatDoor.Pa Go.Proofs.YtomdigihapdhnaaGreatDoor.Wi
set_option linter.unusedSimpArgs false
set_option linter.unusedVariables false
set_option maxRecDepth 100000
variable {B : World} {ro σ σ' : AH} {tag tag' : Nat → Nat}

abbrev CP : List Nat := [0, 2, 5]
set_option maxHeartbeats 2000000 in
theorem rputReply_ok {rs ds ns es : Sl} {x : Rep} {Q : Sl → Bool → AH → Prop} (hx : RepD ro σ rs ds ns es x) (hsm : Sm20 x)
    (hno : putRep x = none → ∀ tag' σ', (∀ R, Step R ro tag σ tag' σ') → Q ⟨none, 0, 0⟩ false σ')
    (hyes : ∀ b, putRep x = some b → ∀ s tag' σ', (∀ R, Step R ro tag σ tag' σ') → Row tag' σ' 6 5 s (b.map vU) → Q s true σ') : c_ref17_PutReply B ro x.code x.session rs x.bad ds x.ver x.ctr x.own x.kids ns es x.epoch σ Q := by
  refine ref17_PutReply_ok fun hs => ?_
  unfold f_ref17_PutReply
  have lr : rs.len = x.results.length := by rw [hx.res.1, List.length_map]
  have ln : ns.len = x.names.length := by rw [hx.names.1, List.length_map]
  have le : es.len = x.events.length := by rw [hx.evs.1, List.length_map]
  have hdl := hsm.data
  refine nw_cells (tag := T7) 2 hs fun X tag1 σ1 st1 r1 => ?_
  have s1 : StepS CP ro T7 σ tag1 σ1 := (st1 []).s (by simp)
  have no' : ∀ {tag2 σ2}, StepS CP ro T7 σ tag2 σ2 → ¬ okRep x → Q ⟨none, 0, 0⟩ false σ2 := fun s2 h => hno (by unfold putRep; rw [if_neg h]) _ _ (s2.mix (by decide) tag)
  have d7 : ∀ {tag2 σ2}, StepS CP ro T7 σ tag2 σ2 → RepD ro σ2 rs ds ns es x := fun s2 => hx.hle (s2.hle (by decide))
  have nD : ∀ {tag2 σ2}, StepS CP ro T7 σ tag2 σ2 → ¬ okRep x → j13_ref17_PutReply B ro X Q true σ2 := fun s2 h => by unfold j13_ref17_PutReply; rw [if_pos rfl]; exact no' s2 h
  have nB : ∀ {tag2 σ2}, StepS CP ro T7 σ tag2 σ2 → ¬ okRep x → j11_ref17_PutReply B ro X Q true σ2 := fun s2 h => by unfold j11_ref17_PutReply; rw [if_pos rfl]; exact nD s2 h
  have n9 : ¬ okRep x → j9_ref17_PutReply B ro X Q true σ1 := fun h => by unfold j9_ref17_PutReply; rw [if_pos rfl]; exact nB s1 h
  have n7 : ¬ okRep x → j7_ref17_PutReply B ro X Q true σ1 := fun h => by unfold j7_ref17_PutReply; rw [if_pos rfl]; exact n9 h
  have n5 : ¬ okRep x → j5_ref17_PutReply B ro X Q true σ1 := fun h => by unfold j5_ref17_PutReply; rw [if_pos rfl]; exact n7 h
  have n3 : ¬ okRep x → j3_ref17_PutReply B ro X Q true σ1 := fun h => by unfold j3_ref17_PutReply; rw [if_pos rfl]; exact n5 h
  obtain ⟨p, hp, hg⟩ := r1.ptr (st1 []).sep (by simp)
  cases hp
  refine ⟨rs, hg 2 _ rfl, ?_⟩
  by_cases h1 : 16 < x.results.length
  · rw [if_pos (by omega)]; exact n3 fun k => by have := k.1; omega
  rw [if_neg (by omega)]
  refine ⟨ns, hg 9 _ rfl, ?_⟩
  by_cases h2 : 4096 < x.names.length
  · rw [show decide ((4096 : Int) < (ns.len : Int)) = true by simp; omega]
    exact n3 fun k => by have := k.2.1; omega
  rw [show decide ((4096 : Int) < (ns.len : Int)) = false by simp; omega]
  unfold j3_ref17_PutReply
  rw [if_neg (by simp)]
  refine ⟨es, hg 10 _ rfl, ?_⟩
  by_cases h3 : 32 < x.events.length
  · rw [show decide ((32 : Int) < (es.len : Int)) = true by simp; omega]
    exact n5 fun k => by have := k.2.2.1; omega
  rw [show decide ((32 : Int) < (es.len : Int)) = false by simp; omega]
  unfold j5_ref17_PutReply
  rw [if_neg (by simp)]
  refine ⟨x.bad, hg 3 _ rfl, ?_⟩
  by_cases h4 : x.bad < -1
  · rw [show decide (x.bad < -1) = true by simpa using h4]
    exact n7 fun k => by have := k.2.2.2.1; omega
  rw [show decide (x.bad < -1) = false by simpa using h4]
  unfold j7_ref17_PutReply
  rw [if_neg (by simp)]
  refine ⟨x.bad, hg 3 _ rfl, ?_⟩
  by_cases h5 : 4611686018427387902 < x.bad
  · rw [show decide (4611686018427387902 < x.bad) = true by simpa using h5]
    exact n9 fun k => by have := k.2.2.2.2.1; omega
  rw [show decide (4611686018427387902 < x.bad) = false by simpa using h5]
  unfold j9_ref17_PutReply
  rw [if_neg (by simp)]
  have b1 : x.results.length ≤ 16 := by omega
  have b2 : x.names.length ≤ 4096 := by omega
  have b3 : x.events.length ≤ 32 := by omega
  refine ⟨x.code, by simpa using hg 0 _ rfl, x.session, hg 1 _ rfl, x.epoch, hg 11 _ rfl, ?_⟩
  refine nw_cells (tag := tag1) 0 (st1 []).sep fun y tag2 σ2 st2 q2 => ?_
  have s2 : StepS CP ro T7 σ tag2 σ2 := s1.trans ((st2 []).s (by simp))
  have x2 := r1.keep (st2 []) (by simp)
  refine rbad_ok (l := [x.code, x.session, x.epoch]) (q2.read s2.sep) (by simp) ?_
  cases c1 : [x.code, x.session, x.epoch].all rightN with
  | false =>
    refine nB s2 fun k => ?_
    obtain ⟨_, _, _, _, _, k1, k2, _, _, _, _, k3, _⟩ := k
    simp [k1, k2, k3] at c1
  | true =>
  simp only [List.all_cons, List.all_nil, Bool.and_true, Bool.and_eq_true] at c1
  unfold j11_ref17_PutReply
  rw [if_neg (by simp)]
  have h4r : ∀ {τ : AH} {ro' : AH}, (∀ i v, [vI x.ver, vI x.ctr, vI x.own, vI x.kids][i]? = some v → acell ro' τ ((⟨X, 0, none⟩ : Addr).add (5 + i)) = some v) → SL.Read ro' τ (⟨some ((⟨X, 0, none⟩ : Addr).add 5), 4, 4⟩ : Sl) ([x.ver, x.ctr, x.own, x.kids].map vI) := fun h =>
    ⟨rfl, (fun e => by cases e), fun p hp i v hv => by cases hp; rw [add_add']; exact h i v hv⟩
  obtain ⟨p, hp, hg⟩ := x2.ptr s2.sep (by simp)
  cases hp
  have f5 : ∀ i v, [vI x.ver, vI x.ctr, vI x.own, vI x.kids][i]? = some v → [vI x.code, vI x.session, Sl.v rs, vI x.bad, Sl.v ds, vI x.ver, vI x.ctr, vI x.own, vI x.kids, Sl.v ns, Sl.v es, vI x.epoch][5 + i]? = some v := fun i v hv => by
    rcases i with _ | _ | _ | _ | i
    · exact hv
    · exact hv
    · exact hv
    · exact hv
    · cases hv
  refine rbad_ok (l := [x.ver, x.ctr, x.own, x.kids]) (h4r fun i v hv => by have := hg (5 + i) v (f5 i v hv); rwa [Nat.mul_one] at this) (by simp) ?_
  cases c2 : [x.ver, x.ctr, x.own, x.kids].all rightN with
  | false =>
    refine nD s2 fun k => ?_
    obtain ⟨_, _, _, _, _, _, _, k1, k2, k3, k4, _, _⟩ := k
    simp [k1, k2, k3, k4] at c2
  | true =>
  have c2' := c2
  simp only [List.all_cons, List.all_nil, Bool.and_true, Bool.and_eq_true] at c2'
  unfold j13_ref17_PutReply
  rw [if_neg (by simp)]
  refine ⟨x.code, by simpa using hg 0 _ rfl, x.session, hg 1 _ rfl, rs, hg 2 _ rfl, ?_⟩
  rw [lr]
  refine nw_cells (tag := tag2) 0 s2.sep fun z tag3 σ3 st3 q3 => ?_
  have hl3 : [x.code, x.session, (x.results.length : Int)].all rightN = true := by simp [c1.1, c1.2.1, lenR b1 (by decide)]
  refine rnums_ok (tag := tag3) (l := [x.code, x.session, (x.results.length : Int)]) (q3.read (st3 []).sep) (by simp) hl3 fun out tag4 σ4 st4 o4 => ?_
  have e4 : numsE [x.code, x.session, (x.results.length : Int)] = pre2 x := by
    unfold numsE pre2; simp
  rw [e4] at o4
  have p2 : (pre2 x).length ≤ 27 := by rw [← e4]; have := numsE_len hl3; simpa using this
  have s4 : StepS CP ro T7 σ tag4 σ4 := s2.trans (((st3 []).s (by simp)).trans ((st4 []).s (by simp)))
  have x4 := (x2.keep (st3 []) (by simp)).keep (st4 []) (by simp)
  -- the end
  have last : ∀ (out : Sl) tag5 σ5, StepS CP ro T7 σ tag5 σ5 → Row tag5 σ5 2 39 ⟨some ⟨X, 0, none⟩, 12, 12⟩ [vI x.code, vI x.session, Sl.v rs, vI x.bad, Sl.v ds, vI x.ver, vI x.ctr, vI x.own, vI x.kids, Sl.v ns, Sl.v es, vI x.epoch] → SL.Read ro σ5 out ((pre4 x ++ encEvs x.events).map vU) → (pre4 x ++ encEvs x.events).length ≤ 5000000000 → okRep x → j36_ref17_PutReply B ro X Q out σ5 := fun out tag5 σ5 s5 x5 o5 hlen hok => by
    unfold j36_ref17_PutReply
    obtain ⟨p, hp, hg⟩ := x5.ptr s5.sep (by simp)
    cases hp
    have hr := rightN_iff.1 c1.2.2
    refine ⟨x.epoch, hg 11 _ rfl, ?_⟩
    refine rput_ok (tag := tag5) hr.1 hr.2 fun w tag6 σ6 st6 r6 => ?_
    refine nw_cells (tag := tag6) 0 (st6 []).sep fun y tag7 σ7 st7 q7 => ?_
    have hle : HLe σ5 σ7 := fun c o hc => ((st7 []).keep c o ((st6 []).keep c o hc (by simp)).2 (by simp)).2
    have hv := vlen c1.2.2
    refine rjoin_ok (tag := tag7) (ss := [out, w]) (ls := [pre4 x ++ encEvs x.events, vput x.epoch.toNat]) (q7.read (st7 []).sep) rfl (fun i s l hs' hl' => ?_) (by simp only [List.flatten_cons, List.flatten_nil, List.append_nil]; rw [List.length_append]; omega) (by simp) fun so tag8 σ8 st8 r8 => ?_
    · rcases i with _ | _ | i
      · cases hs'; cases hl'; exact o5.hle hle
      · cases hs'; cases hl'; exact (r6.keep (st7 []) (by simp)).read (st7 []).sep
      · cases hs'
    have s8 : StepS CP ro T7 σ tag8 σ8 := s5.trans (((st6 []).s (by simp)).trans (((st7 []).s (by simp)).trans ((st8 []).s (by simp))))
    refine hyes (encRep x) (by unfold putRep; rw [if_pos hok]) so _ σ8 (s8.mix (by decide) tag) ?_
    rw [encRep_pre]
    simp only [List.flatten_cons, List.flatten_nil, List.append_nil] at r8
    exact r8.mix s8 (by decide) tag
  -- the events
  have evs : (∀ y ∈ x.results, rightN y.2 = true) → (pre4 x).length ≤ 4400000000 → ∀ k j (out : Sl) tag5 σ5, j + k = x.events.length → (∀ y ∈ x.events.take j, rightN y.1 = true ∧ rightN y.2.1 = true) → StepS CP ro T7 σ tag5 σ5 → Row tag5 σ5 2 39 ⟨some ⟨X, 0, none⟩, 12, 12⟩ [vI x.code, vI x.session, Sl.v rs, vI x.bad, Sl.v ds, vI x.ver, vI x.ctr, vI x.own, vI x.kids, Sl.v ns, Sl.v es, vI x.epoch] → SL.Read ro σ5 out ((pre4 x ++ encEvs (x.events.take j)).map vU) → lfpD (l42_ref17_PutReply B ro X Q) (out, (j : Int)) σ5 := by
    intro hres hp4 k
    have pl : ∀ j, (∀ y ∈ x.events.take j, rightN y.1 = true ∧ rightN y.2.1 = true) → (pre4 x ++ encEvs (x.events.take j)).length ≤ 5000000000 := fun j hj => by
      have h1 := encEvs_len (l := x.events.take j) fun y hy => ⟨hj y hy, hsm.evs y (List.mem_of_mem_take hy)⟩
      have h2 : (x.events.take j).length ≤ 32 := by rw [List.length_take]; omega
      have h3 : 1048603 * (x.events.take j).length ≤ 1048603 * 32 := Nat.mul_le_mul_left _ h2
      rw [List.length_append]; omega
    induction k with
    | zero =>
      intro j out tag5 σ5 hj hall s5 x5 o5
      refine lfpD.intro ?_
      unfold l42_ref17_PutReply
      simp only
      obtain ⟨p, hp, hg⟩ := x5.ptr s5.sep (by simp)
      cases hp
      refine ⟨es, hg 10 _ rfl, ?_⟩
      rw [if_neg (by omega)]
      have hpl := pl j hall
      rw [List.take_of_length_le (by omega)] at hall o5 hpl
      exact last out tag5 σ5 s5 x5 o5 hpl ⟨b1, b2, b3, by omega, by omega, c1.1, c1.2.1, c2'.1, c2'.2.1, c2'.2.2.1, c2'.2.2.2, c1.2.2, hres, hall⟩
    | succ k ih =>
      intro j out tag5 σ5 hj hall s5 x5 o5
      have hjl : j < x.events.length := by omega
      have hd5 := d7 s5
      obtain ⟨q, hq, hc⟩ := hd5.evs.at (j := j) (x := evV' x.events[j]) (by rw [List.getElem?_map, List.getElem?_eq_getElem hjl]; rfl)
      have hel := hsm.evs x.events[j] (List.getElem_mem hjl)
      have etk : x.events.take (j + 1) = x.events.take j ++ [x.events[j]] := by rw [List.take_add_one, List.getElem?_eq_getElem hjl]; rfl
      have hmem := List.getElem_mem hjl
      generalize x.events[j] = e at hc hel etk hmem
      refine lfpD.intro ?_
      unfold l42_ref17_PutReply
      simp only
      obtain ⟨p, hp, hg⟩ := x5.ptr s5.sep (by simp)
      cases hp
      have cell : ∀ i v, (evV' e)[i]? = some v → acell ro σ5 ((q.add (j * 3)).add i) = some v := fun i v hv => cellsAt_get' hc hv
      refine ⟨es, hg 10 _ rfl, ?_⟩
      rw [if_pos (by omega)]
      refine ⟨es, hg 10 _ rfl, q, hq, by omega, by omega, e.1, by have := cell 0 _ rfl; simpa using this, es, hg 10 _ rfl, q, hq, by omega, by omega, e.2.1, by have := cell 1 _ rfl; simpa using this, ?_⟩
      refine nw_cells (tag := tag5) 0 s5.sep fun y tag6 σ6 st6 q6 => ?_
      have s6 : StepS CP ro T7 σ tag6 σ6 := s5.trans ((st6 []).s (by simp))
      have k56 : HLe σ5 σ6 := fun c o hc => ((st6 []).keep c o hc (by simp)).2
      refine rbad_ok (l := [e.1, e.2.1]) (q6.read s6.sep) (by simp) ?_
      cases c3 : [e.1, e.2.1].all rightN with
      | false =>
        rw [if_pos (show (!false) = true from rfl)]
        refine no' s6 fun ok => ?_
        have := ok.2.2.2.2.2.2.2.2.2.2.2.2.2 e hmem
        simp [this.1, this.2] at c3
      | true =>
      rw [if_neg (by simp)]
      have c3' := c3
      simp only [List.all_cons, List.all_nil, Bool.and_true, Bool.and_eq_true] at c3'
      have x6 := x5.keep (st6 []) (by simp)
      have hs6 := s6.sep
      refine lent_all ?_
      have A : ∀ {τ : AH} {a : Addr} {v : Value}, acell ro σ5 a = some v → acell (join ro σ6) τ a = some v := fun h => acell_all hs6 (acell_hle k56 h)
      refine ⟨es, A (hg 10 _ rfl), q, hq, by omega, by omega, S e.2.2, A (by have := cell 2 _ rfl; simpa using this), es, A (hg 10 _ rfl), q, hq, by omega, by omega, e.1, A (by have := cell 0 _ rfl; simpa using this), es, A (hg 10 _ rfl), q, hq, by omega, by omega, e.2.1, A (by have := cell 1 _ rfl; simpa using this), ?_⟩
      refine nw_cells (tag := T7) 0 SL.Sep.none fun y2 tag7 σ7 st7 q7 => ?_
      refine rnums_ok (tag := tag7) (l := [e.1, e.2.1]) (q7.read (st7 []).sep) (by simp) c3 fun w1 tag8 σ8 st8 r8 => ?_
      refine awp_s2b (tag := tag8) (st8 []).sep fun sp tag9 σ9 st9 h9 => ?_
      refine ⟨sp, rfl, ?_⟩
      refine rblobp_ok (tag := tag9) h9 (by omega) fun w2 tagA σA stA rA => ?_
      refine nw_cells (tag := tagA) 0 (stA []).sep fun y3 tagB σB stB qB => ?_
      have k8B : HLe σ8 σB := fun c o hc => ((stB []).keep c o ((stA []).keep c o ((st9 []).keep c o hc (by simp)).2 (by simp)).2 (by simp)).2
      have hpl := pl j hall
      have hn1 := numsE_len c3
      have hb1 := blen hel (by decide)
      have ef : [pre4 x ++ encEvs (x.events.take j), numsE [e.1, e.2.1], blob e.2.2].flatten = pre4 x ++ encEvs (x.events.take (j + 1)) := by
        rw [etk]; unfold encEvs numsE; simp
      refine joinq (q := 5) (tag := tagB) (ss := [out, w1, w2]) (ls := [pre4 x ++ encEvs (x.events.take j), numsE [e.1, e.2.1], blob e.2.2]) (qB.read (stB []).sep) rfl (fun i s l hs' hl' => ?_) (by simp only [List.flatten_cons, List.flatten_nil, List.append_nil, List.length_append] at hpl ⊢; simp only [List.length_cons, List.length_nil] at hn1; omega) (by simp) fun so tagC σC stC rC => ?_
      · rcases i with _ | _ | _ | i
        · cases hs'; cases hl'; exact (o5.hle k56).all hs6
        · cases hs'; cases hl'; exact (r8.read (st8 []).sep).hle k8B
        · cases hs'; cases hl'; exact (rA.keep (stB []) (by simp)).read (stB []).sep
        · cases hs'
      intro hdis
      rw [ef] at rC
      have stD := all_step (tag1 := tagC) hs6 hdis (stC []).sep tag6
      have rD := rC.allB (σ := σ6) hdis tag6
      rw [Pa.inc j (by omega)]
      have sD : StepS CP ro T7 σ _ _ := s6.trans ((stD []).s (by simp))
      refine ih (j + 1) so _ _ (by omega) (fun y hy => ?_) sD (x6.keep (stD []) (by simp)) (rD.read (stD []).sep)
      rw [etk] at hy
      rcases List.mem_append.1 hy with h | h
      · exact hall y h
      · rw [List.mem_singleton.1 h]; exact c3'
  -- behind the names
  have behind : (∀ y ∈ x.results, rightN y.2 = true) → (pre3 x).length ≤ 30000000 → ∀ (out : Sl) tag5 σ5, StepS CP ro T7 σ tag5 σ5 → Row tag5 σ5 2 39 ⟨some ⟨X, 0, none⟩, 12, 12⟩ [vI x.code, vI x.session, Sl.v rs, vI x.bad, Sl.v ds, vI x.ver, vI x.ctr, vI x.own, vI x.kids, Sl.v ns, Sl.v es, vI x.epoch] → Row tag5 σ5 5 5 out ((pre3 x ++ x.names.flatMap blob).map vU) → j31_ref17_PutReply B ro X Q out σ5 := fun hres hp3 out tag5 σ5 s5 x5 o5 => by
    unfold j31_ref17_PutReply
    obtain ⟨p, hp, hg⟩ := x5.ptr s5.sep (by simp)
    cases hp
    have hb := blobs_len hsm.names
    have hb' : 1048585 * x.names.length ≤ 1048585 * 4096 := Nat.mul_le_mul_left _ b2
    refine ⟨es, hg 10 _ rfl, ?_⟩
    rw [le]
    refine rput_ok (tag := tag5) (by omega) (by omega) fun w tag6 σ6 st6 r6 => ?_
    rw [Int.toNat_natCast] at r6
    have hv := vlenN (n := x.events.length) (by omega)
    refine awp_appendN (o5.keep (st6 []) (by simp)) (st6 []).sep (r6.read (st6 []).sep) u30 ty5 rfl (by simp [storable]) (by rw [List.length_map, List.length_map, List.length_append]; omega) (by decide) fun o2 tag7 σ7 st7 r7 => ?_
    refine ⟨o2, rfl, ?_⟩
    have st7 := st7 [5] (.inr (by simp))
    have s7 : StepS CP ro T7 σ tag7 σ7 := s5.trans (((st6 []).s (by simp)).trans (st7.s (by simp)))
    refine evs hres ?_ _ 0 o2 tag7 σ7 (Nat.zero_add _) (by simp) s7 ((x5.keep (st6 []) (by simp)).keep st7 (by simp)) ?_
    · unfold pre4; rw [List.length_append, List.length_append]; omega
    · have := r7.read st7.sep
      rw [← List.map_append] at this
      have e : pre4 x ++ encEvs (x.events.take 0) = pre3 x ++ x.names.flatMap blob ++ vput x.events.length := by unfold pre4 encEvs; simp
      rw [e]; exact this
  -- the names
  have names : (∀ y ∈ x.results, rightN y.2 = true) → (pre3 x).length ≤ 30000000 → ∀ k j (out : Sl) tag5 σ5, j + k = x.names.length → StepS CP ro T7 σ tag5 σ5 → Row tag5 σ5 2 39 ⟨some ⟨X, 0, none⟩, 12, 12⟩ [vI x.code, vI x.session, Sl.v rs, vI x.bad, Sl.v ds, vI x.ver, vI x.ctr, vI x.own, vI x.kids, Sl.v ns, Sl.v es, vI x.epoch] → Row tag5 σ5 5 5 out ((pre3 x ++ (x.names.take j).flatMap blob).map vU) → lfpD (l69_ref17_PutReply B ro X Q) (out, (j : Int)) σ5 := by
    intro hres hp3 k
    induction k with
    | zero =>
      intro j out tag5 σ5 hj s5 x5 o5
      refine lfpD.intro ?_
      unfold l69_ref17_PutReply
      simp only
      obtain ⟨p, hp, hg⟩ := x5.ptr s5.sep (by simp)
      cases hp
      refine ⟨ns, hg 9 _ rfl, ?_⟩
      rw [if_neg (by omega)]
      rw [List.take_of_length_le (by omega)] at o5
      exact behind hres hp3 out tag5 σ5 s5 x5 o5
    | succ k ih =>
      intro j out tag5 σ5 hj s5 x5 o5
      have hjl : j < x.names.length := by omega
      have hel := hsm.names x.names[j] (List.getElem_mem hjl)
      obtain ⟨q, hq, hc⟩ := (d7 s5).names.ptr (by simp; omega)
      have hcj := hc j (Pa.vS x.names[j]) (by rw [List.getElem?_map, List.getElem?_eq_getElem hjl]; rfl)
      have etk : x.names.take (j + 1) = x.names.take j ++ [x.names[j]] := by rw [List.take_add_one, List.getElem?_eq_getElem hjl]; rfl
      generalize x.names[j] = e at hcj hel etk
      refine lfpD.intro ?_
      unfold l69_ref17_PutReply
      simp only
      obtain ⟨p, hp, hg⟩ := x5.ptr s5.sep (by simp)
      cases hp
      refine ⟨ns, hg 9 _ rfl, ?_⟩
      rw [if_pos (by omega)]
      refine ⟨ns, hg 9 _ rfl, q, hq, by omega, by omega, S e, by rw [Int.toNat_natCast, Nat.mul_one]; exact hcj, ?_⟩
      refine awp_s2b (tag := tag5) s5.sep fun sp tag6 σ6 st6 h6 => ?_
      refine ⟨sp, rfl, ?_⟩
      refine rblobp_ok (tag := tag6) h6 (by omega) fun w tag7 σ7 st7 r7 => ?_
      have hb1 := blen hel (by decide)
      have hb := blobs_len (l := x.names.take j) fun y hy => hsm.names y (List.mem_of_mem_take hy)
      have hb' : 1048585 * (x.names.take j).length ≤ 1048585 * 4096 := Nat.mul_le_mul_left _ (by rw [List.length_take]; omega)
      refine awp_appendN ((o5.keep (st6 []) (by simp)).keep (st7 []) (by simp)) (st7 []).sep (r7.read (st7 []).sep) u30 ty5 rfl (by simp [storable]) (by rw [List.length_map, List.length_map, List.length_append]; omega) (by decide) fun o2 tag8 σ8 st8 r8 => ?_
      have st8 := st8 [5] (.inr (by simp))
      refine ⟨o2, rfl, ?_⟩
      rw [Pa.inc j (by omega)]
      refine ih (j + 1) o2 tag8 σ8 (by omega) (s5.trans (((st6 []).s (by simp)).trans (((st7 []).s (by simp)).trans (st8.s (by simp))))) (((x5.keep (st6 []) (by simp)).keep (st7 []) (by simp)).keep st8 (by simp)) ?_
      rw [etk, List.flatMap_append, ← List.append_assoc, List.map_append]
      simpa using r8
  -- behind the results
  have mid : (∀ y ∈ x.results, rightN y.2 = true) → ∀ (out : Sl) tag5 σ5, StepS CP ro T7 σ tag5 σ5 → Row tag5 σ5 2 39 ⟨some ⟨X, 0, none⟩, 12, 12⟩ [vI x.code, vI x.session, Sl.v rs, vI x.bad, Sl.v ds, vI x.ver, vI x.ctr, vI x.own, vI x.kids, Sl.v ns, Sl.v es, vI x.epoch] → SL.Read ro σ5 out ((pre2 x ++ encRes x.results).map vU) → j20_ref17_PutReply B ro X Q out σ5 := fun hres out tag5 σ5 s5 x5 o5 => by
    unfold j20_ref17_PutReply
    obtain ⟨p, hp, hg⟩ := x5.ptr s5.sep (by simp)
    cases hp
    have hs5 := s5.sep
    have A : ∀ {τ : AH} {a : Addr} {v : Value}, acell ro σ5 a = some v → acell (join ro σ5) τ a = some v := fun h => acell_all hs5 h
    have hr1 := encRes_len (l := x.results) fun y hy => ⟨hres y hy, hsm.res y hy⟩
    have hr2 : 1048594 * x.results.length ≤ 1048594 * 16 := Nat.mul_le_mul_left _ b1
    refine lent_all ?_
    refine ⟨ds, A (hg 4 _ rfl), ns, A (hg 9 _ rfl), x.bad, A (hg 3 _ rfl), ?_⟩
    rw [show IntKind.i64.wrap (x.bad + 1) = x.bad + 1 from SL.w64_eq (by omega) (by omega), ln]
    refine rput_ok (tag := T7) (by omega) (by omega) fun w1 tag6 σ6 st6 r6 => ?_
    refine rblobp_ok (tag := tag6) (((d7 s5).all hs5).data) (by omega) fun w2 tag7 σ7 st7 r7 => ?_
    refine rnums_ok (tag := tag7) (l := [x.ver, x.ctr, x.own, x.kids]) (h4r fun i v hv => A (by have := hg (5 + i) v (f5 i v hv); rwa [Nat.mul_one] at this)) (by simp) c2 fun w3 tag8 σ8 st8 r8 => ?_
    refine rput_ok (tag := tag8) (by omega) (by omega) fun w4 tag9 σ9 st9 r9 => ?_
    rw [Int.toNat_natCast] at r9
    refine nw_cells (tag := tag9) 0 (st9 []).sep fun y tagA σA stA qA => ?_
    have eb : rightN (x.bad + 1) = true := by rw [rightN_iff]; omega
    have hv1 := vlen eb
    have hv2 := blen hdl (by decide)
    have hv3 := numsE_len c2
    have hv4 := vlenN (n := x.names.length) (by omega)
    simp only [List.length_cons, List.length_nil] at hv3
    have ef : [pre2 x ++ encRes x.results, vput (x.bad + 1).toNat, blob x.data, numsE [x.ver, x.ctr, x.own, x.kids], vput x.names.length].flatten = pre3 x := by unfold pre3; simp
    have hp3 : (pre3 x).length ≤ 30000000 := by
      rw [← ef]
      simp only [List.flatten_cons, List.flatten_nil, List.append_nil, List.length_append]
      omega
    refine joinq (q := 5) (tag := tagA) (ss := [out, w1, w2, w3, w4]) (ls := [pre2 x ++ encRes x.results, vput (x.bad + 1).toNat, blob x.data, numsE [x.ver, x.ctr, x.own, x.kids], vput x.names.length]) (qA.read (stA []).sep) rfl (fun i s l hs' hl' => ?_) (by rw [ef]; omega) (by simp) fun so tagC σC stC rC => ?_
    · rcases i with _ | _ | _ | _ | _ | i
      · cases hs'; cases hl'; exact o5.all hs5
      · cases hs'; cases hl'; exact ((((r6.keep (st7 []) (by simp)).keep (st8 []) (by simp)).keep (st9 []) (by simp)).keep (stA []) (by simp)).read (stA []).sep
      · cases hs'; cases hl'; exact (((r7.keep (st8 []) (by simp)).keep (st9 []) (by simp)).keep (stA []) (by simp)).read (stA []).sep
      · cases hs'; cases hl'; exact ((r8.keep (st9 []) (by simp)).keep (stA []) (by simp)).read (stA []).sep
      · cases hs'; cases hl'; exact (r9.keep (stA []) (by simp)).read (stA []).sep
      · cases hs'
    intro hdis
    rw [ef] at rC
    have stD := all_step (tag1 := tagC) hs5 hdis (stC []).sep tag5
    have rD := rC.allB (σ := σ5) hdis tag5
    have sD : StepS CP ro T7 σ _ _ := s5.trans ((stD []).s (by simp))
    refine names hres hp3 _ 0 so _ _ (Nat.zero_add _) sD (x5.keep (stD []) (by simp)) ?_
    rw [List.take_zero, List.flatMap_nil, List.append_nil]; exact rD
  suffices ∀ k j (out : Sl) tag5 σ5, j + k = x.results.length → (∀ y ∈ x.results.take j, rightN y.2 = true) → StepS CP ro T7 σ tag5 σ5 → Row tag5 σ5 2 39 ⟨some ⟨X, 0, none⟩, 12, 12⟩ [vI x.code, vI x.session, Sl.v rs, vI x.bad, Sl.v ds, vI x.ver, vI x.ctr, vI x.own, vI x.kids, Sl.v ns, Sl.v es, vI x.epoch] → SL.Read ro σ5 out ((pre2 x ++ encRes (x.results.take j)).map vU) → lfpD (l79_ref17_PutReply B ro X Q) (out, (j : Int)) σ5 from
    this _ 0 out tag4 σ4 (Nat.zero_add _) (by simp) s4 x4 (by
      have e : pre2 x ++ encRes (x.results.take 0) = pre2 x := by unfold encRes; simp
      rw [e]; exact o4.read s4.sep)
  intro k
  induction k with
  | zero =>
    intro j out tag5 σ5 hj hall s5 x5 o5
    refine lfpD.intro ?_
    unfold l79_ref17_PutReply
    simp only
    obtain ⟨p, hp, hg⟩ := x5.ptr s5.sep (by simp)
    cases hp
    refine ⟨rs, hg 2 _ rfl, ?_⟩
    rw [if_neg (by omega)]
    rw [List.take_of_length_le (by omega)] at hall o5
    exact mid hall out tag5 σ5 s5 x5 o5
  | succ k ih =>
    intro j out tag5 σ5 hj hall s5 x5 o5
    have hjl : j < x.results.length := by omega
    obtain ⟨q, hq, hc⟩ := (d7 s5).res.at (j := j) (x := resV x.results[j]) (by rw [List.getElem?_map, List.getElem?_eq_getElem hjl]; rfl)
    have hel := hsm.res x.results[j] (List.getElem_mem hjl)
    have etk : x.results.take (j + 1) = x.results.take j ++ [x.results[j]] := by rw [List.take_add_one, List.getElem?_eq_getElem hjl]; rfl
    have hmem := List.getElem_mem hjl
    generalize x.results[j] = e at hc hel etk hmem
    refine lfpD.intro ?_
    unfold l79_ref17_PutReply
    simp only
    obtain ⟨p, hp, hg⟩ := x5.ptr s5.sep (by simp)
    cases hp
    have cell : ∀ i v, (resV e)[i]? = some v → acell ro σ5 ((q.add (j * 2)).add i) = some v := fun i v hv => cellsAt_get' hc hv
    refine ⟨rs, hg 2 _ rfl, ?_⟩
    rw [if_pos (by omega)]
    refine ⟨rs, hg 2 _ rfl, q, hq, by omega, by omega, e.2, by have := cell 1 _ rfl; simpa using this, ?_⟩
    refine nw_cells (tag := tag5) 0 s5.sep fun y tag6 σ6 st6 q6 => ?_
    have s6 : StepS CP ro T7 σ tag6 σ6 := s5.trans ((st6 []).s (by simp))
    have k56 : HLe σ5 σ6 := fun c o hc => ((st6 []).keep c o hc (by simp)).2
    refine rbad_ok (l := [e.2]) (q6.read s6.sep) (by simp) ?_
    cases c3 : [e.2].all rightN with
    | false =>
      rw [if_pos (show (!false) = true from rfl)]
      refine no' s6 fun ok => ?_
      have := ok.2.2.2.2.2.2.2.2.2.2.2.2.1 e hmem
      simp [this] at c3
    | true =>
    rw [if_neg (by simp)]
    have c3' : rightN e.2 = true := by simpa using c3
    have hr := rightN_iff.1 c3'
    have x6 := x5.keep (st6 []) (by simp)
    have hs6 := s6.sep
    refine lent_all ?_
    have A : ∀ {τ : AH} {a : Addr} {v : Value}, acell ro σ5 a = some v → acell (join ro σ6) τ a = some v := fun h => acell_all hs6 (acell_hle k56 h)
    refine ⟨rs, A (hg 2 _ rfl), q, hq, by omega, by omega, e.2, A (by have := cell 1 _ rfl; simpa using this), rs, A (hg 2 _ rfl), q, hq, by omega, by omega, S e.1, A (by have := cell 0 _ rfl; simpa using this), ?_⟩
    refine awp_s2b (tag := T7) SL.Sep.none fun sp tag7 σ7 st7 h7 => ?_
    refine ⟨sp, rfl, ?_⟩
    refine rblobp_ok (tag := tag7) h7 (by omega) fun w1 tag8 σ8 st8 r8 => ?_
    refine rput_ok (tag := tag8) hr.1 hr.2 fun w2 tag9 σ9 st9 r9 => ?_
    refine nw_cells (tag := tag9) 0 (st9 []).sep fun y3 tagB σB stB qB => ?_
    have hb1 := blen hel (by decide)
    have hv1 := vlen c3'
    have hr1 := encRes_len (l := x.results.take j) fun y hy => ⟨hall y hy, hsm.res y (List.mem_of_mem_take hy)⟩
    have hr2 : 1048594 * (x.results.take j).length ≤ 1048594 * 16 := Nat.mul_le_mul_left _ (by rw [List.length_take]; omega)
    have ef : [pre2 x ++ encRes (x.results.take j), blob e.1, vput e.2.toNat].flatten = pre2 x ++ encRes (x.results.take (j + 1)) := by
      rw [etk]; unfold encRes; simp
    refine joinq (q := 5) (tag := tagB) (ss := [out, w1, w2]) (ls := [pre2 x ++ encRes (x.results.take j), blob e.1, vput e.2.toNat]) (qB.read (stB []).sep) rfl (fun i s l hs' hl' => ?_) (by simp only [List.flatten_cons, List.flatten_nil, List.append_nil, List.length_append]; omega) (by simp) fun so tagC σC stC rC => ?_
    · rcases i with _ | _ | _ | i
      · cases hs'; cases hl'; exact (o5.hle k56).all hs6
      · cases hs'; cases hl'; exact ((r8.keep (st9 []) (by simp)).keep (stB []) (by simp)).read (stB []).sep
      · cases hs'; cases hl'; exact (r9.keep (stB []) (by simp)).read (stB []).sep
      · cases hs'
    intro hdis
    rw [ef] at rC
    have stD := all_step (tag1 := tagC) hs6 hdis (stC []).sep tag6
    have rD := rC.allB (σ := σ6) hdis tag6
    rw [Pa.inc j (by omega)]
    have sD : StepS CP ro T7 σ _ _ := s6.trans ((stD []).s (by simp))
    refine ih (j + 1) so _ _ (by omega) (fun y hy => ?_) sD (x6.keep (stD []) (by simp)) (rD.read (stD []).sep)
    rw [etk] at hy
    rcases List.mem_append.1 hy with h | h
    · exact hall y h
    · rw [List.mem_singleton.1 h]; exact c3'
end Go.Proofs.YtomdigihapdhnaaGreatDoor.Zt

/- The tree and the document's tree are alike: sizes, owners, bytes. -/
namespace Go.Proofs.YtomdigihapdhnaaGreatDoor.Zt
open Go Go.Proofs.YtomdigihapdhnaaGreatDoor.SL Go.Proofs.YtomdigihapdhnaaGreatDoor.G Go.Proofs.YtomdigihapdhnaaGreatDoor.Pa Go.Proofs.YtomdigihapdhnaaGreatDoor.Wi
set_option linter.unusedSimpArgs false
set_option linter.unusedVariables false
variable {B : World} {ro σ σ' : AH} {tag tag' : Nat → Nat}

theorem RowW.del {r r' : Nat} {e : TypeId} {w : Nat} {s : Sl} {l : List (List Value)} {b : Nat} (h : RowW tag σ r e w s l) (hb : tag b = r') (hr : r ≠ r') : RowW tag (SL.del σ b) r e w s l := by
  rcases h with h | ⟨c, cs, ha, ht, hs, hx⟩
  · exact .inl h
  · refine .inr ⟨c, cs, ha, ht, ?_, hx⟩
    have : c ≠ b := fun e => hr (by rw [← ht, e, hb])
    unfold SL.del; rw [if_neg this]; exact hs
end Go.Proofs.YtomdigihapdhnaaGreatDoor.Zt

/- The document's numbers are read as the wire's. -/
namespace Go.Proofs.YtomdigihapdhnaaGreatDoor.Zt
open Go Go.Proofs.YtomdigihapdhnaaGreatDoor.SL Go.Proofs.YtomdigihapdhnaaGreatDoor.G Go.Proofs.YtomdigihapdhnaaGreatDoor.Pa Go.Proofs.YtomdigihapdhnaaGreatDoor.Wi
set_option linter.unusedSimpArgs false
set_option linter.unusedVariables false
set_option maxRecDepth 100000
variable {B : World} {ro σ σ' : AH} {tag tag' : Nat → Nat}

theorem val_cut {m : Str} {k : Nat} {c : UInt8} (hk : m[k]? = some c) (hc : c.toNat < 128) : val (m.take (k + 1)) = val (m.take k) + 128 ^ k * c.toNat := by
  have hkl : k < m.length := by
    rcases Nat.lt_or_ge k m.length with h | h
    · exact h
    · rw [List.getElem?_eq_none h] at hk; cases hk
  rw [List.take_add_one, hk]
  simp only [Option.toList_some]
  rw [val_snoc, List.length_take, Nat.min_eq_left (by omega), Nat.mod_eq_of_lt hc]
theorem rnumber_ok {s : Sl} {l : Str} {p : Nat} {Q : Int → Int → Int → AH → Prop} (h : SL.Read ro σ s (l.map vU)) (hl : l.length ≤ 140737488355328) (hp : p ≤ l.length)
    (hQ : Q (num (l.drop p)).1 (if (num (l.drop p)).2.2 = 0 then ((p + (num (l.drop p)).2.1 : Nat) : Int) else 0) (num (l.drop p)).2.2 σ) : c_ref01_Number B ro s (p : Int) σ Q := by
  refine ref01_Number_ok fun _ => ?_
  unfold f_ref01_Number
  have hln : s.len = l.length := by rw [h.1, List.length_map]
  rw [if_neg (by omega)]
  obtain ⟨m, hm⟩ : ∃ m, l.drop p = m := ⟨_, rfl⟩
  have hml : m.length + p = l.length := by rw [← hm, List.length_drop]; omega
  rw [hm] at hQ
  have cell : ∀ i (hi : i < m.length), ∃ q : Addr, s.a = some q ∧ acell ro σ (q.add (Int.toNat (IntKind.i64.wrap ((p : Int) + (i : Int))) * 1)) = some (.int .u8 (m[i].toNat : Int)) ∧ IntKind.i64.wrap ((p : Int) + (i : Int)) = ((p + i : Nat) : Int) := fun i hi => by
    obtain ⟨q, hq⟩ : ∃ q, s.a = some q := by
      cases e : s.a with
      | none =>
        have := h.2.1 e
        rw [List.map_eq_nil_iff] at this
        rw [this, List.length_nil] at hml; omega
      | some q => exact ⟨q, rfl⟩
    have e : IntKind.i64.wrap ((p : Int) + (i : Int)) = ((p + i : Nat) : Int) := by rw [SL.w64_eq (by omega) (by omega)]; omega
    refine ⟨q, hq, ?_, e⟩
    rw [e, Int.toNat_natCast, Nat.mul_one]
    refine h.2.2 q hq (p + i) _ ?_
    have : l[p + i]? = some m[i] := by rw [← List.getElem?_drop, hm]; exact List.getElem?_eq_getElem hi
    rw [List.getElem?_map, this]; rfl
  -- the value, from the top
  have value : ∀ (k : Nat) (hk : k < m.length), (∀ i c, i < k → m[i]? = some c → 128 ≤ c.toNat) → k ≤ 8 → val (m.take (k + 1)) < 4611686018427387904 → num m = (val (m.take (k + 1)), k + 1, 0) →
      lfpD (l9_ref01_Number B ro s (p : Int) (k : Int) Q) ((0 : Int), (k : Int)) σ := by
    intro k hk hhi hk8 hv en
    rw [en] at hQ
    simp only [if_true] at hQ
    -- what is left: the places i .. 0; the value so far is that of the places above
    suffices ∀ (i : Nat) (v : Nat), i ≤ k + 1 → val (m.take (k + 1)) = val (m.take i) + 128 ^ i * v → lfpD (l9_ref01_Number B ro s (p : Int) (k : Int) Q) ((v : Int), (i : Int) - 1) σ by
      have h0 := this (k + 1) 0 (by omega) (by rw [Nat.mul_zero]; rfl)
      rw [show (((k + 1 : Nat) : Int) - 1) = (k : Int) by omega] at h0
      exact h0
    intro i
    induction i with
    | zero =>
      intro v hi he
      refine lfpD.intro ?_
      unfold l9_ref01_Number
      simp only
      rw [if_neg (by omega)]
      unfold j7_ref01_Number
      have e1 : val (m.take 0) = 0 := rfl
      rw [e1, Nat.pow_zero, Nat.one_mul, Nat.zero_add] at he
      rw [he] at hQ
      rw [show IntKind.i64.wrap ((IntKind.i64.wrap ((p : Int) + (k : Int))) + 1) = ((p + (k + 1) : Nat) : Int) by rw [SL.w64_eq (n := (p : Int) + (k : Int)) (by omega) (by omega), SL.w64_eq (by omega) (by omega)]; omega]
      exact hQ
    | succ i ih =>
      intro v hi he
      have him : i < m.length := by omega
      obtain ⟨q, hq, hcell, ew⟩ := cell i him
      have hp0 : 0 < 128 ^ i := Nat.pow_pos (by decide)
      have ets : val (m.take (i + 1)) = val (m.take i) + 128 ^ i * (m[i].toNat % 128) := by
        rw [List.take_add_one, List.getElem?_eq_getElem him]
        simp only [Option.toList_some]
        rw [val_snoc, List.length_take, Nat.min_eq_left (by omega)]
      have he2 : val (m.take (k + 1)) = val (m.take i) + 128 ^ i * (v * 128 + m[i].toNat % 128) := by
        rw [he, ets, Nat.pow_succ, Nat.mul_add, Nat.add_assoc, Nat.add_comm (128 ^ i * (v * 128)), Nat.mul_assoc, Nat.mul_comm 128 v]
      have hvb : v * 128 + m[i].toNat % 128 ≤ val (m.take (k + 1)) := by
        rw [he2]
        have := Nat.le_mul_of_pos_left (v * 128 + m[i].toNat % 128) hp0
        omega
      refine lfpD.intro ?_
      unfold l9_ref01_Number
      simp only
      rw [if_pos (by omega)]
      rw [show (((i + 1 : Nat) : Int) - 1) = (i : Int) by omega]
      refine ⟨q, hq, by rw [ew]; omega, by rw [ew]; omega, (m[i].toNat : Int), hcell, ?_⟩
      have hlt := u8_lt m[i]
      have e1 : IntKind.i64.wrap ((IntKind.i64.wrap ((v : Int) * 128)) + (Int.tmod (IntKind.i64.wrap (m[i].toNat : Int)) 128)) = ((v * 128 + m[i].toNat % 128 : Nat) : Int) := by
        rw [SL.w64_eq (n := (v : Int) * 128) (by omega) (by omega), SL.w64_eq (n := (m[i].toNat : Int)) (by omega) (by omega), Int.tmod_eq_emod_of_nonneg (by omega), SL.w64_eq (by omega) (by omega)]
        omega
      rw [e1, show IntKind.i64.wrap ((i : Int) - 1) = (i : Int) - 1 by rw [SL.w64_eq (by omega) (by omega)]]
      exact ih _ (by omega) he2
  have after : ∀ x7 : Int, (x7 = -1 ∧ scan 9 m = none) ∨ (∃ k : Nat, x7 = k ∧ scan 9 m = some k) → j1_ref01_Number B ro s (p : Int) Q x7 σ := by
    intro x7 hx
    have ew : IntKind.i64.wrap ((s.len : Int) - (p : Int)) = (m.length : Int) := by rw [SL.w64_eq (by omega) (by omega)]; omega
    unfold j1_ref01_Number
    rw [ew]
    rcases hx with ⟨rfl, hsc⟩ | ⟨k, rfl, hsc⟩
    · have en : num m = (0, 0, if m.length < 9 then 12 else 13) := by unfold num; rw [hsc]
      rw [en] at hQ
      by_cases c : m.length < 9
      · rw [if_pos (by omega)]
        rw [if_pos c] at hQ; exact hQ
      · rw [if_neg (by omega), if_pos (by decide)]
        unfold j3_ref01_Number
        rw [if_pos rfl]
        unfold j5_ref01_Number
        rw [if_pos rfl]
        rw [if_neg c] at hQ; exact hQ
    · obtain ⟨k9, hkm, hhi, c, hck, hc128⟩ := scan_some 9 m k hsc
      rw [if_neg (by omega), if_neg (by omega)]
      have bad : (0 < k ∧ m[k]? = some 0) ∨ 4611686018427387904 ≤ val (m.take (k + 1)) → Q 0 0 13 σ := fun hb => by
        have en : num m = (0, 0, 13) := by unfold num; rw [hsc]; simp only; rw [if_pos hb]
        rw [en] at hQ; exact hQ
      have good : ¬ ((0 < k ∧ m[k]? = some 0) ∨ 4611686018427387904 ≤ val (m.take (k + 1))) → j5_ref01_Number B ro s (p : Int) (k : Int) Q false σ := fun hb => by
        have en : num m = (val (m.take (k + 1)), k + 1, 0) := by unfold num; rw [hsc]; simp only; rw [if_neg hb]
        unfold j5_ref01_Number
        rw [if_neg (by simp)]
        exact value k hkm hhi (by omega) (by omega) en
      have hmk : m[k] = c := by rw [List.getElem?_eq_getElem hkm] at hck; exact Option.some.inj hck
      have hvt := val_take m k
      have hvc := val_cut hck hc128
      have second : (¬ (0 < k ∧ m[k]? = some 0)) → j3_ref01_Number B ro s (p : Int) (k : Int) Q false σ := fun hz => by
        unfold j3_ref01_Number
        rw [if_neg (by simp)]
        by_cases c8 : k = 8
        · subst c8
          rw [if_pos (by rfl)]
          obtain ⟨q, hq, hcell, ew⟩ := cell 8 hkm
          rw [show ((8 : Nat) : Int) = 8 from rfl] at hcell ew
          refine ⟨q, hq, by rw [ew]; omega, by rw [ew]; omega, (m[8].toNat : Int), hcell, ?_⟩
          unfold j14_ref01_Number
          rw [hmk]
          have e8 : (128 : Nat) ^ 8 = 72057594037927936 := by decide
          rw [e8] at hvt hvc
          by_cases c63 : 63 < c.toNat
          · rw [decide_eq_true (by omega)]
            unfold j5_ref01_Number
            rw [if_pos rfl]
            exact bad (.inr (by omega))
          · rw [decide_eq_false (by omega)]
            exact good (by rintro (h | h); exact hz h; omega)
        · rw [if_neg (by omega)]
          unfold j14_ref01_Number
          refine good ?_
          rintro (h | h)
          · exact hz h
          · have : (128 : Nat) ^ (k + 1) ≤ 128 ^ 8 := Nat.pow_le_pow_right (by decide) (by omega)
            have hv := val_take m (k + 1)
            have e8 : (128 : Nat) ^ 8 = 72057594037927936 := by decide
            omega
      by_cases c0 : 0 < k
      · rw [if_pos (by omega)]
        obtain ⟨q, hq, hcell, ew⟩ := cell k hkm
        refine ⟨q, hq, by rw [ew]; omega, by rw [ew]; omega, (m[k].toNat : Int), hcell, ?_⟩
        unfold j18_ref01_Number
        by_cases cz : c.toNat = 0
        · rw [decide_eq_true (by rw [hmk]; omega)]
          unfold j3_ref01_Number
          rw [if_pos rfl]
          unfold j5_ref01_Number
          rw [if_pos rfl]
          exact bad (.inl ⟨c0, by rw [hck, show c = 0 from u8_eq (by simpa using cz)]⟩)
        · rw [decide_eq_false (by rw [hmk]; omega)]
          refine second ?_
          rintro ⟨_, hz⟩
          rw [hck] at hz
          exact cz (by rw [Option.some.inj hz]; rfl)
      · rw [if_neg (by omega)]
        unfold j18_ref01_Number
        exact second fun h => c0 h.1
  suffices ∀ d i, i + d = 9 → i ≤ m.length → (∀ j c, j < i → m[j]? = some c → 128 ≤ c.toNat) → lfpD (l22_ref01_Number B ro s (p : Int) Q) ((-1 : Int), (i : Int)) σ from
    this 9 0 rfl (Nat.zero_le _) fun j c h => absurd h (Nat.not_lt_zero _)
  intro d
  induction d with
  | zero =>
    intro i hi him hall
    refine lfpD.intro ?_
    unfold l22_ref01_Number
    simp only
    rw [if_neg (by omega)]
    exact after _ (.inl ⟨rfl, scan_none_of 9 m fun j c hj hc => hall j c (by omega) hc⟩)
  | succ d ih =>
    intro i hi him hall
    have ew : IntKind.i64.wrap ((p : Int) + (i : Int)) = ((p + i : Nat) : Int) := by rw [SL.w64_eq (by omega) (by omega)]; omega
    refine lfpD.intro ?_
    unfold l22_ref01_Number
    simp only
    by_cases c : i < m.length
    · rw [if_pos ⟨⟨by omega, by rw [ew]; omega⟩, by decide⟩]
      obtain ⟨q, hq, hcell, _⟩ := cell i c
      refine ⟨q, hq, by rw [ew]; omega, by rw [ew]; omega, (m[i].toNat : Int), hcell, ?_⟩
      by_cases c1 : m[i].toNat < 128
      · rw [if_pos (by omega)]
        unfold j25_ref01_Number
        rw [Pa.inc i (by omega)]
        refine lfpD.intro ?_
        simp only
        rw [if_neg (by omega)]
        exact after _ (.inr ⟨i, rfl, scan_of 9 m i m[i] (by omega) hall (List.getElem?_eq_getElem c) c1⟩)
      · rw [if_neg (by omega)]
        unfold j25_ref01_Number
        rw [Pa.inc i (by omega)]
        refine ih (i + 1) (by omega) (by omega) fun j x hj hx => ?_
        rcases Nat.lt_or_ge j i with h | h
        · exact hall j x h hx
        · obtain rfl : j = i := by omega
          rw [List.getElem?_eq_getElem c] at hx
          cases hx; omega
    · rw [if_neg (by rw [ew]; omega)]
      refine after _ (.inl ⟨rfl, scan_none_of 9 m fun j x hj hx => ?_⟩)
      have hjl : j < m.length := by
        rcases Nat.lt_or_ge j m.length with h | h
        · exact h
        · rw [List.getElem?_eq_none h] at hx; cases hx
      exact hall j x (by omega) hx
end Go.Proofs.YtomdigihapdhnaaGreatDoor.Zt

/- The document's reader. -/
namespace Go.Proofs.YtomdigihapdhnaaGreatDoor.Zt
open Go Go.Proofs.YtomdigihapdhnaaGreatDoor.SL Go.Proofs.YtomdigihapdhnaaGreatDoor.G Go.Proofs.YtomdigihapdhnaaGreatDoor.Pa Go.Proofs.YtomdigihapdhnaaGreatDoor.Wi
set_option linter.unusedSimpArgs false
set_option linter.unusedVariables false
set_option maxRecDepth 100000
variable {B : World} {ro σ σ' : AH} {tag tag' : Nat → Nat}

/-- a reader of the document: its block, the bytes (read only), what is left and the error -/
def RdIs (tag : Nat → Nat) (σ : AH) (q X : Nat) (s : Sl) (l : Str) (rd : Rd) : Prop := ∃ p : Nat, p ≤ l.length ∧ rd.rest = l.drop p ∧ Row tag σ q 147 ⟨some ⟨X, 0, none⟩, 3, 3⟩ [Sl.v s, .int .i64 (p : Int), .int .i64 rd.err]
theorem rdnum_ok {q X : Nat} {s : Sl} {l : Str} {rd : Rd} {Q : Int → AH → Prop} (h : RdIs tag σ q X s l rd) (hr : SL.Read ro (fun _ => none) s (l.map vU)) (hl : l.length ≤ 140737488355328)
    (hQ : ∀ σ', Step [q] ro tag σ tag σ' → RdIs tag σ' q X s l (rnum rd).2 → Q ((rnum rd).1 : Nat) σ') : c_ref01_Reader_Num B ro (some ⟨X, 0, none⟩) σ Q := by
  refine ref01_Reader_Num_ok fun hs => ?_
  unfold f_ref01_Reader_Num
  obtain ⟨p, hp, hrest, r⟩ := id h
  obtain ⟨pp, hpp, hg⟩ := r.ptr hs (by simp)
  cases hpp
  refine ⟨_, rfl, _, hg 2 _ rfl, ?_⟩
  by_cases c : rd.err = 0
  · rw [if_neg (by simpa using c)]
    refine ⟨_, rfl, _, rfl, s, hg 0 _ rfl, _, hg 1 _ rfl, ?_⟩
    refine rnumber_ok hr.keep hl hp ?_
    have e : rnum rd = ((num (l.drop p)).1, ⟨(l.drop p).drop (num (l.drop p)).2.1, (num (l.drop p)).2.2⟩) := by
      unfold rnum; rw [if_neg (by simpa using c), hrest]
    rw [e] at hQ
    have hle := (num_le (l.drop p)).1
    rw [List.length_drop] at hle
    by_cases c2 : (num (l.drop p)).2.2 = 0
    · rw [if_pos c2, if_neg (by simpa using c2)]
      refine ⟨_, rfl, ?_⟩
      refine r.st (i := 1) hs rfl (by simp) rfl fun σ2 st2 r2 => ?_
      refine hQ σ2 st2 ⟨p + (num (l.drop p)).2.1, by omega, by rw [List.drop_drop], ?_⟩
      simp only [c2]
      rw [c] at r2; exact r2
    · obtain ⟨e1, e2, _⟩ := num_err c2
      rw [if_neg c2, if_pos c2]
      refine ⟨_, rfl, ?_⟩
      refine r.st (i := 2) hs rfl (by simp) rfl fun σ2 st2 r2 => ?_
      rw [e1] at hQ
      exact hQ σ2 st2 ⟨p, hp, by rw [e2]; rfl, r2⟩
  · rw [if_pos c]
    rw [rnum_bad c] at hQ
    exact hQ σ (Step.refl hs) h
theorem rdleft_ok {q X : Nat} {s : Sl} {l : Str} {rd : Rd} {Q : Int → AH → Prop} (h : RdIs tag σ q X s l rd) (hr : SL.Read ro (fun _ => none) s (l.map vU)) (hl : l.length ≤ 140737488355328)
    (hQ : Q (rd.rest.length : Nat) σ) : c_ref01_Reader_Left B ro (some ⟨X, 0, none⟩) σ Q := by
  refine ref01_Reader_Left_ok fun hs => ?_
  unfold f_ref01_Reader_Left
  obtain ⟨p, hp, hrest, r⟩ := id h
  obtain ⟨pp, hpp, hg⟩ := r.ptr hs (by simp)
  cases hpp
  have hln : s.len = l.length := by rw [hr.1, List.length_map]
  refine ⟨_, rfl, _, rfl, s, hg 0 _ rfl, _, hg 1 _ rfl, ?_⟩
  rw [SL.w64_eq (by omega) (by omega)]
  rw [hrest, List.length_drop] at hQ
  rw [show ((s.len : Int) - (p : Int)) = ((l.length - p : Nat) : Int) by omega]
  exact hQ
end Go.Proofs.YtomdigihapdhnaaGreatDoor.Zt

/- The document's reader: Blob. -/
namespace Go.Proofs.YtomdigihapdhnaaGreatDoor.SL
open Go
variable {ro σ σ' : AH} {tag tag' : Nat → Nat}
theorem addr_add (a : Addr) (p i : Nat) : (a.add p).add i = a.add (p + i) := by
  unfold Addr.add
  by_cases hp : p = 0
  · subst hp; simp
  · by_cases hi : i = 0
    · subst hi; simp [hp]
    · simp [hp, hi, Nat.add_assoc]
theorem Read.cut {s : Sl} {l : List Value} {p n : Nat} (h : Read ro σ s l) (hc : s.len ≤ s.cap) (hn : p + n ≤ l.length) : Read ro σ ⟨cutA s.a p s.cap 1, p + n - p, s.cap - p⟩ ((l.drop p).take n) := by
  have hl := h.1
  refine ⟨by simp; omega, fun ha => ?_, fun a ha i v hv => ?_⟩
  · unfold cutA at ha
    split at ha
    · rename_i e
      have : n = 0 := by omega
      subst this; simp
    · cases hs : s.a with
      | none => rw [h.2.1 hs] at hn ⊢; simp
      | some x => rw [hs] at ha; simp at ha
  · rw [List.getElem?_take] at hv
    split at hv
    · rename_i hin
      rw [List.getElem?_drop] at hv
      unfold cutA at ha
      split at ha
      · omega
      · cases hs : s.a with
        | none => rw [hs] at ha; cases ha
        | some x =>
          rw [hs] at ha
          simp only [Option.map_some, Nat.mul_one] at ha
          cases ha
          rw [addr_add]
          exact h.2.2 x hs (p + i) v hv
    · cases hv
end Go.Proofs.YtomdigihapdhnaaGreatDoor.SL
namespace Go.Proofs.YtomdigihapdhnaaGreatDoor.Zt
open Go Go.Proofs.YtomdigihapdhnaaGreatDoor.SL Go.Proofs.YtomdigihapdhnaaGreatDoor.G Go.Proofs.YtomdigihapdhnaaGreatDoor.Pa Go.Proofs.YtomdigihapdhnaaGreatDoor.Wi
set_option linter.unusedSimpArgs false
set_option linter.unusedVariables false
set_option maxRecDepth 100000
variable {B : World} {ro σ σ' : AH} {tag tag' : Nat → Nat}
theorem RdIs.keep {q X : Nat} {s : Sl} {l : Str} {rd : Rd} {R : List Nat} (h : RdIs tag σ q X s l rd) (k : Step R ro tag σ tag' σ') (hq : q ∉ R) : RdIs tag' σ' q X s l rd := by
  obtain ⟨p, h1, h2, h3⟩ := h
  exact ⟨p, h1, h2, h3.keep k hq⟩
theorem RdIs.err {q X : Nat} {s : Sl} {l : Str} {rd : Rd} (h : RdIs tag σ q X s l rd) (hs : SL.Sep ro σ) : acell ro σ ((⟨X, 0, none⟩ : Addr).add 2) = some (.int .i64 rd.err) := by
  obtain ⟨p, h1, h2, h3⟩ := h
  obtain ⟨pp, hpp, hg⟩ := h3.ptr hs (by simp)
  cases hpp
  exact hg 2 _ rfl
theorem rdblob_ok {q X : Nat} {s : Sl} {l : Str} {rd : Rd} {Q : Sl → AH → Prop} (hq6 : q ≠ 6) (h : RdIs tag σ q X s l rd) (hr : SL.Read ro (fun _ => none) s (l.map vU)) (hc : s.len ≤ s.cap) (hl : l.length ≤ 140737488355328)
    (hQ : ∀ d tag' σ', Step [q] ro tag σ tag' σ' → RdIs tag' σ' q X s l (rblob rd).2 → Row tag' σ' 6 5 d ((rblob rd).1.map vU) → Q d σ') : c_ref01_Reader_Blob B ro (some ⟨X, 0, none⟩) σ Q := by
  refine ref01_Reader_Blob_ok fun hs => ?_
  unfold f_ref01_Reader_Blob
  have hln : s.len = l.length := by rw [hr.1, List.length_map]
  obtain ⟨p, hp, hrest, r⟩ := id h
  obtain ⟨pp, hpp, hg⟩ := r.ptr hs (by simp)
  cases hpp
  refine ⟨_, rfl, _, hg 1 _ rfl, ?_⟩
  refine rdnum_ok h hr hl fun σ1 st1 h1 => ?_
  obtain ⟨p1, hp1, hrest1, r1⟩ := id h1
  obtain ⟨pp, hpp, hg1⟩ := r1.ptr st1.sep (by simp)
  cases hpp
  refine ⟨_, rfl, _, hg1 2 _ rfl, ?_⟩
  by_cases c : (rnum rd).2.err = 0
  · rw [if_neg (by simpa using c)]
    refine rdleft_ok h1 hr hl ?_
    by_cases c2 : (rnum rd).2.rest.length < (rnum rd).1
    · rw [if_pos (by omega)]
      have e : rblob rd = ([], ⟨rd.rest, 12⟩) := by unfold rblob; rw [if_neg (by simpa using c), if_pos c2]
      rw [e] at hQ
      refine ⟨_, rfl, ?_⟩
      refine r1.st (i := 2) st1.sep rfl (by simp) rfl fun σ2 st2 r2 => ?_
      refine ⟨_, rfl, ?_⟩
      refine r2.st (i := 1) st2.sep rfl (by simp) rfl fun σ3 st3 r3 => ?_
      exact hQ _ tag σ3 (st1.trans (st2.trans st3)) ⟨p, hp, hrest, r3⟩ (Row.nil _ _)
    · rw [if_neg (by omega)]
      have e : rblob rd = ((rnum rd).2.rest.take (rnum rd).1, ⟨(rnum rd).2.rest.drop (rnum rd).1, 0⟩) := by unfold rblob; rw [if_neg (by simpa using c), if_neg c2]
      rw [e] at hQ
      generalize (rnum rd).1 = n at c2 hQ
      rw [hrest1, List.length_drop] at c2
      rw [hrest1] at hQ
      have ew : IntKind.i64.wrap ((p1 : Int) + (n : Int)) = ((p1 + n : Nat) : Int) := by rw [SL.w64_eq (by omega) (by omega)]; omega
      refine ⟨_, rfl, _, rfl, _, rfl, s, hg1 0 _ rfl, _, hg1 1 _ rfl, _, hg1 1 _ rfl, ?_⟩
      rw [ew, Int.toNat_natCast, Int.toNat_natCast]
      refine ⟨⟨⟨by omega, by omega⟩, ⟨by omega, by simp [cutHi]; omega⟩⟩, ?_⟩
      have hcut := Read.cut (p := p1) (n := n) (hr.keep (σ := σ1)) hc (by rw [List.length_map]; omega)
      refine copy_ok (tag := tag) (l := ((l.drop p1).take n).map vU) (by rw [List.map_take, List.map_drop]; exact hcut) st1.sep (by rw [List.length_map, List.length_take, List.length_drop]; omega) (fun v hv => by obtain ⟨c, _, rfl⟩ := List.mem_map.1 hv; rfl) fun d tag2 σ2 st2 r2 => ?_
      have r12 := r1.keep (st2 []) (by simp)
      obtain ⟨pp, hpp, hg2⟩ := r12.ptr (st2 []).sep (by simp)
      cases hpp
      refine ⟨_, rfl, _, hg2 1 _ rfl, _, rfl, ?_⟩
      rw [ew]
      refine r12.st (i := 1) (st2 []).sep rfl (by simp) rfl fun σ3 st3 r3 => ?_
      rw [c] at r3
      exact hQ d tag2 σ3 (st1.trans ((st2 _).trans st3)) ⟨p1 + n, by omega, by simp only; rw [List.drop_drop], r3⟩ (r2.keep st3 (by simp; omega))
  · rw [if_pos c]
    have e : rblob rd = ([], (rnum rd).2) := by unfold rblob; rw [if_pos c]
    rw [e] at hQ
    exact hQ _ tag σ1 st1 h1 (Row.nil _ _)
end Go.Proofs.YtomdigihapdhnaaGreatDoor.Zt

/- Replies off bytes: the document's GetReply. -/
namespace Go.Proofs.YtomdigihapdhnaaGreatDoor.Zt
open Go Go.Proofs.YtomdigihapdhnaaGreatDoor.SL Go.Proofs.YtomdigihapdhnaaGreatDoor.G Go.Proofs.YtomdigihapdhnaaGreatDoor.Pa Go.Proofs.YtomdigihapdhnaaGreatDoor.Wi
set_option linter.unusedSimpArgs false
set_option linter.unusedVariables false
set_option maxRecDepth 100000
variable {B : World} {ro σ σ' : AH} {tag tag' : Nat → Nat}

theorem tyRes17 : TyIs Tryz.prog 136 (.agg #[.string ByteArray.empty, .int .i64 0]) 2 24 := TyIs.of (by kernel_rfl)
theorem tyEv17 : TyIs Tryz.prog 139 (.agg #[.int .i64 0, .int .i64 0, .string ByteArray.empty]) 3 32 := TyIs.of (by kernel_rfl)
/-- the document's reply in memory, its rows of the roles q, q + 1, q + 2 -/
structure RepR (tag : Nat → Nat) (σ : AH) (q : Nat) (rs ds ns es : Sl) (x : Rep) : Prop where
  res : RowW tag σ q 136 2 rs (x.results.map resV)
  data : Row tag σ 6 5 ds (x.data.map vU)
  names : Row tag σ (q + 1) 9 ns (x.names.map Pa.vS)
  evs : RowW tag σ (q + 2) 139 3 es (x.events.map evV')
theorem RepR.d {q : Nat} {rs ds ns es : Sl} {x : Rep} (h : RepR tag σ q rs ds ns es x) (hs : SL.Sep ro σ) : RepD ro σ rs ds ns es x := ⟨h.res.read hs, h.data.read hs, h.names.read hs, h.evs.read hs⟩
theorem RepR.keepS {C : List Nat} {q : Nat} {rs ds ns es : Sl} {x : Rep} (h : RepR tag σ q rs ds ns es x) (k : StepS C ro tag σ tag' σ') (h0 : q % 64 ∉ C) (h1 : (q + 1) % 64 ∉ C) (h2 : (q + 2) % 64 ∉ C) (h6 : 6 ∉ C) : RepR tag' σ' q rs ds ns es x :=
  ⟨RowW.keepS h.res k h0, h.data.keepS k h6, h.names.keepS k h1, RowW.keepS h.evs k h2⟩
theorem RdIs.del {q X b : Nat} {s : Sl} {l : Str} {rd : Rd} (h : RdIs tag σ q X s l rd) (hb : q ≠ tag b) : RdIs tag (SL.del σ b) q X s l rd := by
  obtain ⟨p, h1, h2, h3⟩ := h
  exact ⟨p, h1, h2, h3.del rfl hb⟩
theorem RdIs.back {q X b r' : Nat} {s : Sl} {l : Str} {rd : Rd} {τ : AH} (h : RdIs tag' τ q X s l rd) (hd : Disj (SL.one σ b) τ) (hb : ∃ o, σ b = some o) : RdIs (setTag tag' b r') (join (SL.one σ b) τ) q X s l rd := by
  obtain ⟨p, h1, h2, h3⟩ := h
  exact ⟨p, h1, h2, h3.back hd hb⟩
theorem and16 {n m j : Nat} : ((j : Int) < (n : Int) ∧ (j : Int) < (m : Int)) ↔ j < min n m := by omega
abbrev CF : List Nat := [0, 2, 3, 4, 9, 10, 11]
set_option maxHeartbeats 4000000 in
theorem rgetReply_ok {a0 : Sl} {b : Str} {Q : Int → Int → Sl → Int → Sl → Int → Int → Int → Int → Sl → Sl → Int → Bool → AH → Prop} (h : SL.Read ro (fun _ => none) a0 (b.map vU)) (hcap : a0.len ≤ a0.cap) (hl : b.length ≤ 140737488355328)
    (hno : getRep b = none → ∀ tag' σ', (∀ R, Step R ro tag σ tag' σ') → Q 0 0 ⟨none, 0, 0⟩ 0 ⟨none, 0, 0⟩ 0 0 0 0 ⟨none, 0, 0⟩ ⟨none, 0, 0⟩ 0 false σ')
    (hyes : ∀ x, getRep b = some x → ∀ rs ds ns es tag' σ', (∀ R, Step R ro tag σ tag' σ') → RepR tag' σ' 9 rs ds ns es x → Q x.code x.session rs x.bad ds x.ver x.ctr x.own x.kids ns es x.epoch true σ') : c_ref17_GetReply B ro a0 σ Q := by
  refine ref17_GetReply_ok fun hs => ?_
  unfold f_ref17_GetReply
  obtain ⟨A1, e1⟩ : ∃ A, rnum ⟨b, 0⟩ = A := ⟨_, rfl⟩
  obtain ⟨A2, e2⟩ : ∃ A, rnum A1.2 = A := ⟨_, rfl⟩
  obtain ⟨A3, e3⟩ : ∃ A, rnum A2.2 = A := ⟨_, rfl⟩
  obtain ⟨A4, e4⟩ : ∃ A, gres (min A3.1 16) A3.2 = A := ⟨_, rfl⟩
  obtain ⟨A5, e5⟩ : ∃ A, rnum A4.2 = A := ⟨_, rfl⟩
  obtain ⟨A6, e6⟩ : ∃ A, rblob A5.2 = A := ⟨_, rfl⟩
  obtain ⟨A7, e7⟩ : ∃ A, rnum A6.2 = A := ⟨_, rfl⟩
  obtain ⟨A8, e8⟩ : ∃ A, rnum A7.2 = A := ⟨_, rfl⟩
  obtain ⟨A9, e9⟩ : ∃ A, rnum A8.2 = A := ⟨_, rfl⟩
  obtain ⟨B0, f0⟩ : ∃ A, rnum A9.2 = A := ⟨_, rfl⟩
  obtain ⟨B1, f1⟩ : ∃ A, rnum B0.2 = A := ⟨_, rfl⟩
  obtain ⟨B2, f2⟩ : ∃ A, gnames (min B1.1 4096) B1.2 = A := ⟨_, rfl⟩
  obtain ⟨B3, f3⟩ : ∃ A, rnum B2.2 = A := ⟨_, rfl⟩
  obtain ⟨B4, f4⟩ : ∃ A, gevs (min B3.1 32) B3.2 = A := ⟨_, rfl⟩
  obtain ⟨B5, f5⟩ : ∃ A, rnum B4.2 = A := ⟨_, rfl⟩
  have hR : readRep b = ⟨⟨A1.1, A2.1, A4.1, (A5.1 : Int) - 1, A6.1, A7.1, A8.1, A9.1, B0.1, B2.1, B4.1, B5.1⟩, A3.1, B1.1, B3.1, B5.2⟩ := by
    unfold readRep
    simp only [e1, e2, e3, e4, e5, e6, e7, e8, e9, f0, f1, f2, f3, f4, f5]
  have lt5 : A5.1 < 4611686018427387904 := by rw [← e5]; exact rnum_lt' _
  refine nw_cells (tag := T7) 2 hs fun Y tag1 σ1 st1 r1 => ?_
  refine nw_cells (tag := tag1) 4 (st1 []).sep fun A tag2 σ2 st2 rA2 => ?_
  have rd2 : RdIs tag2 σ2 4 A a0 b ⟨b, 0⟩ := ⟨0, Nat.zero_le _, rfl, rA2⟩
  refine rdnum_ok rd2 h hl fun σ3 st3 rd3 => ?_
  rw [e1] at rd3 ⊢
  refine nw_st (tag := tag2) 3 st3.sep rfl (by simp [storable, Sl.v]) fun X tag5 σ5 st5 r5 => ?_
  refine rdnum_ok (rd3.keep (st5 []) (by simp)) h hl fun σ4 st4 rd4 => ?_
  rw [e2] at rd4 ⊢
  refine (r5.keep st4 (by decide)).stAt [.int .i64 (A2.1 : Nat)] 1 st4.sep (by simp) (by simp [storable]) fun σ4' st4' x4 => ?_
  refine rdnum_ok (rd4.keep st4' (by decide)) h hl fun σ6 st6 rd6 => ?_
  rw [e3] at rd6 ⊢
  have s6 : StepS CF ro T7 σ tag5 σ6 := ((st1 []).s (by simp)).trans (((st2 []).s (by simp)).trans ((st3.s (by simp)).trans (((st5 []).s (by simp)).trans ((st4.s (by simp)).trans ((st4'.s (by simp)).trans (st6.s (by simp)))))))
  have y6 := (((((r1.keep (st2 []) (by simp)).keep st3 (by decide)).keep (st5 []) (by simp)).keep st4 (by decide)).keep st4' (by decide)).keep st6 (by decide)
  have x6 : Row tag5 σ6 3 39 ⟨some ⟨X, 0, none⟩, 12, 12⟩ [vI A1.1, vI A2.1, Sl.v ⟨none, 0, 0⟩, vI 0, Sl.v ⟨none, 0, 0⟩, vI 0, vI 0, vI 0, vI 0, Sl.v ⟨none, 0, 0⟩, Sl.v ⟨none, 0, 0⟩, vI 0] := x4.keep st6 (by decide)
  -- the end
  have last : ∀ (rs ds ns es : Sl) tag7 σ7, StepS CF ro T7 σ tag7 σ7 → Row tag7 σ7 2 39 ⟨some ⟨Y, 0, none⟩, 12, 12⟩ [vI 0, vI 0, Sl.v ⟨none, 0, 0⟩, vI 0, Sl.v ⟨none, 0, 0⟩, vI 0, vI 0, vI 0, vI 0, Sl.v ⟨none, 0, 0⟩, Sl.v ⟨none, 0, 0⟩, vI 0] →
      Row tag7 σ7 3 39 ⟨some ⟨X, 0, none⟩, 12, 12⟩ [vI A1.1, vI A2.1, Sl.v rs, vI ((A5.1 : Int) - 1), Sl.v ds, vI A7.1, vI A8.1, vI A9.1, vI B0.1, Sl.v ns, Sl.v es, vI 0] → RowW tag7 σ7 9 136 2 rs (A4.1.map resV) → Row tag7 σ7 6 5 ds (A6.1.map vU) → Row tag7 σ7 10 9 ns (B2.1.map Pa.vS) → RowW tag7 σ7 11 139 3 es (B4.1.map evV') →
      RdIs tag7 σ7 4 A a0 b B4.2 → j14_ref17_GetReply B ro Y X A (A3.1 : Nat) (B1.1 : Nat) (B3.1 : Nat) Q σ7 := fun rs ds ns es tag7 σ7 s7 y7 x7 o1 o2 o3 o4 rd7 => by
    unfold j14_ref17_GetReply
    refine rdnum_ok rd7 h hl fun σ8 st8 rd8 => ?_
    rw [f5] at rd8 ⊢
    have s8 := s7.trans (st8.s (C := CF) (by simp))
    refine (x7.keep st8 (by decide)).stAt [.int .i64 (B5.1 : Nat)] 11 st8.sep (by simp) (by simp [storable]) fun σ9 st9 x9 => ?_
    have s9 := s8.trans (st9.s (C := CF) (by simp))
    have x9 : Row tag7 σ9 3 39 ⟨some ⟨X, 0, none⟩, 12, 12⟩ [vI A1.1, vI A2.1, Sl.v rs, vI ((A5.1 : Int) - 1), Sl.v ds, vI A7.1, vI A8.1, vI A9.1, vI B0.1, Sl.v ns, Sl.v es, vI B5.1] := x9
    have rd9 := rd8.keep st9 (by decide)
    have y9 := (y7.keep st8 (by decide)).keep st9 (by decide)
    have k9 : StepS [3, 4] ro tag7 σ7 tag7 σ9 := (st8.s (by simp)).trans (st9.s (by simp))
    have hat : RepR tag7 σ9 9 rs ds ns es (readRep b).x := by
      rw [hR]
      exact ⟨RowW.keepS o1 k9 (by decide), o2.keepS k9 (by decide), o3.keepS k9 (by decide), RowW.keepS o4 k9 (by decide)⟩
    have fin : ∀ (c : Bool), (((c = true ∨ 16 < A3.1) ∨ 4096 < B1.1) ∨ 32 < B3.1 ↔ ((readRep b).r.err ≠ 0 ∨ 0 < (readRep b).r.rest.length ∨ 16 < (readRep b).nr ∨ 4096 < (readRep b).nn ∨ 32 < (readRep b).ne)) → j17_ref17_GetReply B ro Y X (A3.1 : Nat) (B1.1 : Nat) (B3.1 : Nat) Q c σ9 := fun c hc => by
      unfold j17_ref17_GetReply
      by_cases k : (readRep b).r.err ≠ 0 ∨ 0 < (readRep b).r.rest.length ∨ 16 < (readRep b).nr ∨ 4096 < (readRep b).nn ∨ 32 < (readRep b).ne
      · have k' := hc.2 k
        rw [if_pos (by
          rcases k' with ((k' | k') | k') | k'
          · exact .inl (.inl (.inl k'))
          · exact .inl (.inl (.inr (by omega)))
          · exact .inl (.inr (by omega))
          · exact .inr (by omega))]
        refine y9.stAll s9.sep rfl (by simp [storable, Sl.v]) fun σa sta ra => ?_
        have sa := s9.trans (sta.s (C := CF) (by simp))
        exact ⟨_, _, _, _, _, _, _, _, _, _, _, _, Row.cellsAt ra sta.sep, hno (by unfold getRep; rw [if_pos k]) _ σa (sa.mix (by decide) tag)⟩
      · have k' : ¬ (((c = true ∨ 16 < A3.1) ∨ 4096 < B1.1) ∨ 32 < B3.1) := fun h => k (hc.1 h)
        rw [if_neg (by
          rintro (((h | h) | h) | h)
          · exact k' (.inl (.inl (.inl h)))
          · exact k' (.inl (.inl (.inr (by omega))))
          · exact k' (.inl (.inr (by omega)))
          · exact k' (.inr (by omega)))]
        refine ⟨_, _, _, _, _, _, _, _, _, _, _, _, Row.cellsAt x9 s9.sep, ?_⟩
        refine y9.stAll s9.sep rfl (by simp [storable, Sl.v]) fun σa sta ra => ?_
        have sa := s9.trans (sta.s (C := CF) (by simp))
        have ka : StepS [2] ro tag7 σ9 tag7 σa := sta.s (by simp)
        have ha := hat.keepS ka (by decide) (by decide) (by decide) (by decide)
        have := hyes (readRep b).x (by unfold getRep; rw [if_neg k]) rs ds ns es _ σa (sa.mix (by decide) tag) ⟨SL.RowW.mix ha.res sa (by decide) tag, ha.data.mix sa (by decide) tag, ha.names.mix sa (by decide) tag, SL.RowW.mix ha.evs sa (by decide) tag⟩
        rw [hR] at this
        exact ⟨_, _, _, _, _, _, _, _, _, _, _, _, Row.cellsAt ra sta.sep, this⟩
    have hr1 : (readRep b).r = B5.2 := by rw [hR]
    have hr2 : (readRep b).nr = A3.1 := by rw [hR]
    have hr3 : (readRep b).nn = B1.1 := by rw [hR]
    have hr4 : (readRep b).ne = B3.1 := by rw [hR]
    refine ⟨_, rd9.err s9.sep, ?_⟩
    by_cases c : B5.2.err = 0
    · rw [if_neg (by simpa using c)]
      refine rdleft_ok rd9 h hl ?_
      refine fin _ ?_
      rw [hr1, hr2, hr3, hr4]
      simp only [ne_eq, c, not_true_eq_false, false_or, Bool.not_eq_true', decide_eq_false_iff_not]
      constructor
      · rintro (((h | h) | h) | h)
        · exact .inl (by omega)
        · exact .inr (.inl h)
        · exact .inr (.inr (.inl h))
        · exact .inr (.inr (.inr h))
      · rintro (h | h | h | h)
        · exact .inl (.inl (.inl (by omega)))
        · exact .inl (.inl (.inr h))
        · exact .inl (.inr h)
        · exact .inr h
    · rw [if_pos c]
      refine fin true ?_
      rw [hr1]
      exact ⟨fun _ => .inl c, fun _ => .inl (.inl (.inl rfl))⟩
  -- the events
  have evs : ∀ k j (es : Sl) (l : List (Int × Int × Str)) (x : Rd) (rs ds ns : Sl) tag7 σ7, j + k = min B3.1 32 → l.length = j → (l ++ (gevs k x).1, (gevs k x).2) = B4 → StepS CF ro T7 σ tag7 σ7 → Row tag7 σ7 2 39 ⟨some ⟨Y, 0, none⟩, 12, 12⟩ [vI 0, vI 0, Sl.v ⟨none, 0, 0⟩, vI 0, Sl.v ⟨none, 0, 0⟩, vI 0, vI 0, vI 0, vI 0, Sl.v ⟨none, 0, 0⟩, Sl.v ⟨none, 0, 0⟩, vI 0] →
      Row tag7 σ7 3 39 ⟨some ⟨X, 0, none⟩, 12, 12⟩ [vI A1.1, vI A2.1, Sl.v rs, vI ((A5.1 : Int) - 1), Sl.v ds, vI A7.1, vI A8.1, vI A9.1, vI B0.1, Sl.v ns, Sl.v es, vI 0] → RowW tag7 σ7 9 136 2 rs (A4.1.map resV) → Row tag7 σ7 6 5 ds (A6.1.map vU) → Row tag7 σ7 10 9 ns (B2.1.map Pa.vS) → RowW tag7 σ7 11 139 3 es (l.map evV') →
      RdIs tag7 σ7 4 A a0 b x → lfpD (l23_ref17_GetReply B ro Y X A (A3.1 : Nat) (B1.1 : Nat) (B3.1 : Nat) Q) (j : Int) σ7 := by
    intro k
    induction k with
    | zero =>
      intro j es l x rs ds ns tag7 σ7 hj hlj hg s7 y7 x7 o1 o2 o3 o4 rd7
      refine lfpD.intro ?_
      unfold l23_ref17_GetReply
      rw [if_neg (by have := and16 (n := B3.1) (m := 32) (j := j); intro hh; have := this.1 hh; omega)]
      have h1 : l = B4.1 := by rw [← hg]; simp [gevs]
      have h2 : x = B4.2 := by rw [← hg]; simp [gevs]
      rw [h1] at o4; rw [h2] at rd7
      exact last rs ds ns es tag7 σ7 s7 y7 x7 o1 o2 o3 o4 rd7
    | succ k ih =>
      intro j es l x rs ds ns tag7 σ7 hj hlj hg s7 y7 x7 o1 o2 o3 o4 rd7
      refine lfpD.intro ?_
      unfold l23_ref17_GetReply
      rw [if_pos ⟨by omega, by omega⟩]
      refine rdnum_ok rd7 h hl fun σ8 st8 rd8 => ?_
      refine nw_st (tag := tag7) 0 st8.sep rfl (by simp [storable, Sl.v]) fun Z tag9 σ9 st9 z9 => ?_
      refine rdnum_ok (rd8.keep (st9 []) (by simp)) h hl fun σA stA rdA => ?_
      refine (z9.keep stA (by decide)).stAt [.int .i64 ((rnum (rnum x).2).1 : Nat)] 1 stA.sep (by simp) (by simp [storable]) fun σB stB zB => ?_
      refine rdblob_ok (by decide) (rdA.keep stB (by decide)) h hcap hl fun d tagC σC stC rdC dC => ?_
      refine awp_b2s (dC.read stC.sep) ⟨_, rfl, ?_⟩
      refine (zB.keep stC (by decide)).stAt [.string (S (rblob (rnum (rnum x).2).2).1)] 2 stC.sep (by simp) (by simp [storable]) fun σD stD zD => ?_
      have zD : Row tagC σD 0 139 ⟨some ⟨Z, 0, none⟩, 3, 3⟩ (evV' (((rnum x).1 : Nat), ((rnum (rnum x).2).1 : Nat), (rblob (rnum (rnum x).2).2).1)) := zD
      have k7D : StepS [0, 4] ro tag7 σ7 tagC σD := (st8.s (by simp)).trans (((st9 []).s (by simp)).trans ((stA.s (by simp)).trans ((stB.s (by simp)).trans ((stC.s (by simp)).trans (stD.s (by simp))))))
      have xD := x7.keepS k7D (by decide)
      obtain ⟨p, hp, hgx⟩ := xD.ptr stD.sep (by simp)
      cases hp
      refine ⟨es, hgx 10 _ rfl, _, _, _, Row.cellsAt zD stD.sep, ?_⟩
      refine nw_cells (tag := tagC) 0 stD.sep fun z tagE σE stE zE => ?_
      have oE := (RowW.keepS o4 k7D (by decide)).keep (stE []) (by simp)
      have ll : (l.map evV').length = j := by rw [List.length_map, hlj]
      refine awp_appendW (l2 := [evV' (((rnum x).1 : Nat), ((rnum (rnum x).2).1 : Nat), (rblob (rnum (rnum x).2).2).1)]) oE (stE []).sep (Row.readW1 zE (stE []).sep rfl (by decide)) (t := 37) (by kernel_rfl) tyEv17 rfl (by simp [evV', storable]) (by rw [ll]; simp; omega) (by decide) fun es' tagF σF stF oF => ?_
      have stF := stF [11] (.inr (by simp))
      refine ⟨es', rfl, ?_⟩
      refine ((xD.keep (stE []) (by simp)).keep stF (by decide)).stAt [Sl.v es'] 10 stF.sep (by simp) (by simp [storable, Sl.v]) fun σG stG xG => ?_
      have kDG : StepS [3, 11] ro tagC σD tagF σG := ((stE []).s (by simp)).trans ((stF.s (by simp)).trans (stG.s (by simp)))
      have k7G : StepS [0, 3, 4, 11] ro tag7 σ7 tagF σG := (k7D.mono (by simp)).trans (kDG.mono (by simp))
      rw [Pa.inc j (by omega)]
      refine ih (j + 1) es' (l ++ [((((rnum x).1 : Nat) : Int), (((rnum (rnum x).2).1 : Nat) : Int), (rblob (rnum (rnum x).2).2).1)]) (rblob (rnum (rnum x).2).2).2 rs ds ns tagF σG (by omega) (by simp [hlj]) ?_ (s7.trans (k7G.mono (by simp))) (y7.keepS k7G (by decide)) xG (RowW.keepS o1 k7G (by decide)) (o2.keepS k7G (by decide)) (o3.keepS k7G (by decide)) ?_ ?_
      · rw [← hg, List.append_assoc]; rfl
      · rw [List.map_append]; exact oF.keep stG (by decide)
      · exact (((rdC.keep stD (by decide)).keep (stE []) (by simp)).keep stF (by decide)).keep stG (by decide)
  -- the names
  have names : ∀ k j (ns : Sl) (l : List Str) (x : Rd) (rs ds : Sl) tag7 σ7, j + k = min B1.1 4096 → l.length = j → (l ++ (gnames k x).1, (gnames k x).2) = B2 → StepS CF ro T7 σ tag7 σ7 → Row tag7 σ7 2 39 ⟨some ⟨Y, 0, none⟩, 12, 12⟩ [vI 0, vI 0, Sl.v ⟨none, 0, 0⟩, vI 0, Sl.v ⟨none, 0, 0⟩, vI 0, vI 0, vI 0, vI 0, Sl.v ⟨none, 0, 0⟩, Sl.v ⟨none, 0, 0⟩, vI 0] →
      Row tag7 σ7 3 39 ⟨some ⟨X, 0, none⟩, 12, 12⟩ [vI A1.1, vI A2.1, Sl.v rs, vI ((A5.1 : Int) - 1), Sl.v ds, vI A7.1, vI A8.1, vI A9.1, vI B0.1, Sl.v ns, Sl.v ⟨none, 0, 0⟩, vI 0] → RowW tag7 σ7 9 136 2 rs (A4.1.map resV) → Row tag7 σ7 6 5 ds (A6.1.map vU) → Row tag7 σ7 10 9 ns (l.map Pa.vS) →
      RdIs tag7 σ7 4 A a0 b x → lfpD (l34_ref17_GetReply B ro Y X A (A3.1 : Nat) (B1.1 : Nat) Q) (j : Int) σ7 := by
    intro k
    induction k with
    | zero =>
      intro j ns l x rs ds tag7 σ7 hj hlj hg s7 y7 x7 o1 o2 o3 rd7
      refine lfpD.intro ?_
      unfold l34_ref17_GetReply
      rw [if_neg (by have := and16 (n := B1.1) (m := 4096) (j := j); intro hh; have := this.1 hh; omega)]
      have h1 : l = B2.1 := by rw [← hg]; simp [gnames]
      have h2 : x = B2.2 := by rw [← hg]; simp [gnames]
      rw [h1] at o3; rw [h2] at rd7
      unfold j12_ref17_GetReply
      refine rdnum_ok rd7 h hl fun σ8 st8 rd8 => ?_
      rw [f3] at rd8 ⊢
      have k8 : StepS [4] ro tag7 σ7 tag7 σ8 := st8.s (by simp)
      exact evs _ 0 ⟨none, 0, 0⟩ [] B3.2 rs ds ns tag7 σ8 (Nat.zero_add _) rfl (by rw [f4]; rfl) (s7.trans (k8.mono (by simp))) (y7.keepS k8 (by decide)) (x7.keepS k8 (by decide)) (RowW.keepS o1 k8 (by decide)) (o2.keepS k8 (by decide)) (o3.keepS k8 (by decide)) (RowW.nil _ _ _) rd8
    | succ k ih =>
      intro j ns l x rs ds tag7 σ7 hj hlj hg s7 y7 x7 o1 o2 o3 rd7
      refine lfpD.intro ?_
      unfold l34_ref17_GetReply
      rw [if_pos ⟨by omega, by omega⟩]
      have hs7 := s7.sep
      obtain ⟨tX, hX⟩ := x7.tagOf
      refine lent_block X ?_
      refine ⟨ns, by have := x7.lend hs7 (τ := fun _ => none) (i := 9) rfl; rwa [Nat.mul_one] at this, ?_⟩
      have rdL := rd7.del (b := X) (by rw [tX]; decide)
      refine rdblob_ok (by decide) rdL (Read.ro' h) hcap hl fun d tagA σA stA rdA dA => ?_
      refine awp_b2s (dA.read stA.sep) ⟨_, rfl, ?_⟩
      refine nw_cells (tag := tagA) 0 stA.sep fun Z tagB σB stB rB => ?_
      intro hdis
      have kL : StepS [4] (join ro (SL.one σ7 X)) tag7 (SL.del σ7 X) tagB σB := (stA.s (by simp)).trans ((stB []).s (by simp))
      have kB := StepS.back kL hs7 hdis hX
      have hsB := kB.sep
      have xB := x7.again (tag1 := tagB) hdis
      have rdB := (rdA.keep (stB []) (by simp)).back (r' := tag7 X) hdis hX
      have zB := rB.back (r' := tag7 X) hdis hX
      have o3B := o3.keepS kB (by decide)
      generalize hT : setTag tagB X (tag7 X) = tagC at *
      generalize hS : join (SL.one σ7 X) σB = σC at *
      refine awp_append1 o3B hsB t25 ty9 rfl rfl (Row.cell1 zB hsB) rfl (by rw [List.length_map, hlj]; omega) (by decide) fun ns' tagD σD stD rD => ?_
      refine ⟨ns', rfl, ?_⟩
      have kD : StepS [10] ro tagC σC tagD σD := stD.s (by simp)
      refine (xB.keep stD (by decide)).stAt [Sl.v ns'] 9 stD.sep (by simp) (by simp [storable, Sl.v]) fun σE stE xE => ?_
      have kE : StepS [3] ro tagD σD tagD σE := stE.s (by simp)
      rw [Pa.inc j (by omega)]
      have k7E : StepS [3, 4, 10] ro tag7 σ7 tagD σE := (kB.mono (by simp)).trans ((kD.mono (by simp)).trans (kE.mono (by simp)))
      refine ih (j + 1) ns' (l ++ [(rblob x).1]) (rblob x).2 rs ds tagD σE (by omega) (by simp [hlj]) ?_ (s7.trans (k7E.mono (by simp))) (y7.keepS k7E (by decide)) xE (RowW.keepS o1 k7E (by decide)) (o2.keepS k7E (by decide)) ?_ ?_
      · rw [← hg, List.append_assoc]; rfl
      · rw [List.map_append]
        exact rD.keepS kE (by decide)
      · exact (rdB.keep stD (by decide)).keep stE (by decide)
  -- behind the results
  have mid : ∀ (rs : Sl) tag7 σ7, StepS CF ro T7 σ tag7 σ7 → Row tag7 σ7 2 39 ⟨some ⟨Y, 0, none⟩, 12, 12⟩ [vI 0, vI 0, Sl.v ⟨none, 0, 0⟩, vI 0, Sl.v ⟨none, 0, 0⟩, vI 0, vI 0, vI 0, vI 0, Sl.v ⟨none, 0, 0⟩, Sl.v ⟨none, 0, 0⟩, vI 0] →
      Row tag7 σ7 3 39 ⟨some ⟨X, 0, none⟩, 12, 12⟩ [vI A1.1, vI A2.1, Sl.v rs, vI 0, Sl.v ⟨none, 0, 0⟩, vI 0, vI 0, vI 0, vI 0, Sl.v ⟨none, 0, 0⟩, Sl.v ⟨none, 0, 0⟩, vI 0] → RowW tag7 σ7 9 136 2 rs (A4.1.map resV) → RdIs tag7 σ7 4 A a0 b A4.2 → j7_ref17_GetReply B ro Y X A (A3.1 : Nat) Q σ7 := fun rs tag7 σ7 s7 y7 x7 o1 rd7 => by
    unfold j7_ref17_GetReply
    refine rdnum_ok rd7 h hl fun σ8 st8 rd8 => ?_
    rw [e5] at rd8 ⊢
    rw [show IntKind.i64.wrap ((A5.1 : Nat) - 1 : Int) = (A5.1 : Int) - 1 from SL.w64_eq (by omega) (by omega)]
    refine (x7.keep st8 (by decide)).stAt [.int .i64 ((A5.1 : Int) - 1)] 3 st8.sep (by simp) (by simp [storable]) fun σ9 st9 x9 => ?_
    refine rdblob_ok (by decide) (rd8.keep st9 (by decide)) h hcap hl fun ds tagA σA stA rdA oA => ?_
    rw [e6] at oA rdA
    refine (x9.keep stA (by decide)).stAt [Sl.v ds] 4 stA.sep (by simp) (by simp [storable, Sl.v]) fun σB stB xB => ?_
    have rdB0 := rdA.keep stB (by decide)
    refine lfpD.intro ?_
    show l41_ref17_GetReply B ro Y X A (A3.1 : Nat) Q (0 : Int) σB _
    unfold l41_ref17_GetReply
    rw [if_pos (by decide)]
    refine rdnum_ok rdB0 h hl fun σC0 stC0 rdC0 => ?_
    rw [e7] at rdC0 ⊢
    refine ⟨by decide, ?_⟩
    rw [show (((⟨X, 0, none⟩ : Addr).add 5).add (Int.toNat 0 * 1)) = (⟨X, 0, none⟩ : Addr).add 5 from by rw [add_add']; rfl]
    refine (xB.keep stC0 (by decide)).stAt [.int .i64 (A7.1 : Nat)] 5 stC0.sep (by simp) (by simp [storable]) fun σD0 stD0 xD0 => ?_
    have rdD0 := rdC0.keep stD0 (by decide)
    refine lfpD.intro ?_
    show l41_ref17_GetReply B ro Y X A (A3.1 : Nat) Q (1 : Int) σD0 _
    unfold l41_ref17_GetReply
    rw [if_pos (by decide)]
    refine rdnum_ok rdD0 h hl fun σC1 stC1 rdC1 => ?_
    rw [e8] at rdC1 ⊢
    refine ⟨by decide, ?_⟩
    rw [show (((⟨X, 0, none⟩ : Addr).add 5).add (Int.toNat 1 * 1)) = (⟨X, 0, none⟩ : Addr).add 6 from by rw [add_add']; rfl]
    refine (xD0.keep stC1 (by decide)).stAt [.int .i64 (A8.1 : Nat)] 6 stC1.sep (by simp) (by simp [storable]) fun σD1 stD1 xD1 => ?_
    have rdD1 := rdC1.keep stD1 (by decide)
    refine lfpD.intro ?_
    show l41_ref17_GetReply B ro Y X A (A3.1 : Nat) Q (2 : Int) σD1 _
    unfold l41_ref17_GetReply
    rw [if_pos (by decide)]
    refine rdnum_ok rdD1 h hl fun σC2 stC2 rdC2 => ?_
    rw [e9] at rdC2 ⊢
    refine ⟨by decide, ?_⟩
    rw [show (((⟨X, 0, none⟩ : Addr).add 5).add (Int.toNat 2 * 1)) = (⟨X, 0, none⟩ : Addr).add 7 from by rw [add_add']; rfl]
    refine (xD1.keep stC2 (by decide)).stAt [.int .i64 (A9.1 : Nat)] 7 stC2.sep (by simp) (by simp [storable]) fun σD2 stD2 xD2 => ?_
    have rdD2 := rdC2.keep stD2 (by decide)
    refine lfpD.intro ?_
    show l41_ref17_GetReply B ro Y X A (A3.1 : Nat) Q (3 : Int) σD2 _
    unfold l41_ref17_GetReply
    rw [if_pos (by decide)]
    refine rdnum_ok rdD2 h hl fun σC3 stC3 rdC3 => ?_
    rw [f0] at rdC3 ⊢
    refine ⟨by decide, ?_⟩
    rw [show (((⟨X, 0, none⟩ : Addr).add 5).add (Int.toNat 3 * 1)) = (⟨X, 0, none⟩ : Addr).add 8 from by rw [add_add']; rfl]
    refine (xD2.keep stC3 (by decide)).stAt [.int .i64 (B0.1 : Nat)] 8 stC3.sep (by simp) (by simp [storable]) fun σD3 stD3 xD3 => ?_
    have rdD3 := rdC3.keep stD3 (by decide)
    refine lfpD.intro ?_
    show l41_ref17_GetReply B ro Y X A (A3.1 : Nat) Q (4 : Int) σD3 _
    unfold l41_ref17_GetReply
    rw [if_neg (by decide)]
    unfold j10_ref17_GetReply
    refine rdnum_ok rdD3 h hl fun σH stH rdH => ?_
    rw [f1] at rdH ⊢
    have k8 : StepS [3, 4] ro tag7 σ7 tag7 σ9 := (st8.s (by simp)).trans (st9.s (by simp))
    have kH : StepS [3, 4] ro tagA σA tagA σH := (stB.s (by simp)).trans ((stC0.s (by simp)).trans ((stD0.s (by simp)).trans ((stC1.s (by simp)).trans ((stD1.s (by simp)).trans ((stC2.s (by simp)).trans ((stD2.s (by simp)).trans ((stC3.s (by simp)).trans ((stD3.s (by simp)).trans (stH.s (by simp))))))))))
    have k7 : StepS [3, 4] ro tag7 σ7 tagA σH := k8.trans ((stA.s (by simp)).trans kH)
    exact names _ 0 ⟨none, 0, 0⟩ [] B1.2 rs ds tagA σH (Nat.zero_add _) rfl (by rw [f2]; rfl) (s7.trans (k7.mono (by simp))) (y7.keepS k7 (by decide)) (xD3.keep stH (by decide)) (RowW.keepS o1 k7 (by decide)) (oA.keepS kH (by decide)) (Row.nil _ _) rdH
  suffices ∀ k j (rs : Sl) (l : List (Str × Int)) (x : Rd) tag7 σ7, j + k = min A3.1 16 → l.length = j → (l ++ (gres k x).1, (gres k x).2) = A4 → StepS CF ro T7 σ tag7 σ7 → Row tag7 σ7 2 39 ⟨some ⟨Y, 0, none⟩, 12, 12⟩ [vI 0, vI 0, Sl.v ⟨none, 0, 0⟩, vI 0, Sl.v ⟨none, 0, 0⟩, vI 0, vI 0, vI 0, vI 0, Sl.v ⟨none, 0, 0⟩, Sl.v ⟨none, 0, 0⟩, vI 0] →
      Row tag7 σ7 3 39 ⟨some ⟨X, 0, none⟩, 12, 12⟩ [vI A1.1, vI A2.1, Sl.v rs, vI 0, Sl.v ⟨none, 0, 0⟩, vI 0, vI 0, vI 0, vI 0, Sl.v ⟨none, 0, 0⟩, Sl.v ⟨none, 0, 0⟩, vI 0] → RowW tag7 σ7 9 136 2 rs (l.map resV) → RdIs tag7 σ7 4 A a0 b x → lfpD (l44_ref17_GetReply B ro Y X A (A3.1 : Nat) Q) (j : Int) σ7 from
    this _ 0 ⟨none, 0, 0⟩ [] A3.2 tag5 σ6 (Nat.zero_add _) rfl (by rw [e4]; rfl) s6 y6 x6 (RowW.nil _ _ _) rd6
  intro k
  induction k with
  | zero =>
    intro j rs l x tag7 σ7 hj hlj hg s7 y7 x7 o1 rd7
    refine lfpD.intro ?_
    unfold l44_ref17_GetReply
    rw [if_neg (by have := and16 (n := A3.1) (m := 16) (j := j); intro hh; have := this.1 hh; omega)]
    have h1 : l = A4.1 := by rw [← hg]; simp [gres]
    have h2 : x = A4.2 := by rw [← hg]; simp [gres]
    rw [h1] at o1; rw [h2] at rd7
    exact mid rs tag7 σ7 s7 y7 x7 o1 rd7
  | succ k ih =>
    intro j rs l x tag7 σ7 hj hlj hg s7 y7 x7 o1 rd7
    refine lfpD.intro ?_
    unfold l44_ref17_GetReply
    rw [if_pos ⟨by omega, by omega⟩]
    refine rdblob_ok (by decide) rd7 h hcap hl fun d tag8 σ8 st8 rd8 d8 => ?_
    refine awp_b2s (d8.read st8.sep) ⟨_, rfl, ?_⟩
    refine nw_st (tag := tag8) 0 st8.sep rfl (by simp [storable, Sl.v]) fun Z tag9 σ9 st9 z9 => ?_
    refine rdnum_ok (rd8.keep (st9 []) (by simp)) h hl fun σA stA rdA => ?_
    refine (z9.keep stA (by decide)).stAt [.int .i64 ((rnum (rblob x).2).1 : Nat)] 1 stA.sep (by simp) (by simp [storable]) fun σB stB zB => ?_
    have zB : Row tag9 σB 0 136 ⟨some ⟨Z, 0, none⟩, 2, 2⟩ (resV ((rblob x).1, ((rnum (rblob x).2).1 : Nat))) := zB
    have k7B : StepS [0, 4] ro tag7 σ7 tag9 σB := (st8.s (by simp)).trans (((st9 []).s (by simp)).trans ((stA.s (by simp)).trans (stB.s (by simp))))
    have xB := x7.keepS k7B (by decide)
    obtain ⟨p, hp, hgx⟩ := xB.ptr stB.sep (by simp)
    cases hp
    refine ⟨rs, hgx 2 _ rfl, _, _, Row.cellsAt zB stB.sep, ?_⟩
    refine nw_cells (tag := tag9) 0 stB.sep fun z tagE σE stE zE => ?_
    have oE := (RowW.keepS o1 k7B (by decide)).keep (stE []) (by simp)
    have ll : (l.map resV).length = j := by rw [List.length_map, hlj]
    refine awp_appendW (l2 := [resV ((rblob x).1, ((rnum (rblob x).2).1 : Nat))]) oE (stE []).sep (Row.readW1 zE (stE []).sep rfl (by decide)) (t := 35) (by kernel_rfl) tyRes17 rfl (by simp [resV, storable]) (by rw [ll]; simp; omega) (by decide) fun rs' tagF σF stF oF => ?_
    have stF := stF [9] (.inr (by simp))
    refine ⟨rs', rfl, ?_⟩
    refine ((xB.keep (stE []) (by simp)).keep stF (by decide)).stAt [Sl.v rs'] 2 stF.sep (by simp) (by simp [storable, Sl.v]) fun σG stG xG => ?_
    have kBG : StepS [3, 9] ro tag9 σB tagF σG := ((stE []).s (by simp)).trans ((stF.s (by simp)).trans (stG.s (by simp)))
    have k7G : StepS [0, 3, 4, 9] ro tag7 σ7 tagF σG := (k7B.mono (by simp)).trans (kBG.mono (by simp))
    rw [Pa.inc j (by omega)]
    refine ih (j + 1) rs' (l ++ [((rblob x).1, (((rnum (rblob x).2).1 : Nat) : Int))]) (rnum (rblob x).2).2 tagF σG (by omega) (by simp [hlj]) ?_ (s7.trans (k7G.mono (by simp))) (y7.keepS k7G (by decide)) xG ?_ ?_
    · rw [← hg, List.append_assoc]; rfl
    · rw [List.map_append]; exact oF.keep stG (by decide)
    · exact (((rdA.keep stB (by decide)).keep (stE []) (by simp)).keep stF (by decide)).keep stG (by decide)
end Go.Proofs.YtomdigihapdhnaaGreatDoor.Zt
