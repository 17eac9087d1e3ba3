/- ReK, ReL, ReM, StF -/
import Derived.JoinedCond
import Derived.Test.YtomdigihapdhnaaGreatDoorRows
import Derived.Test.YtomdigihapdhnaaGreatDoorXN
/- StoreReplies, the walk. -/
namespace Go.Proofs.YtomdigihapdhnaaGreatDoor.Zt
open Go Go.Proofs.YtomdigihapdhnaaGreatDoor.SL Go.Proofs.YtomdigihapdhnaaGreatDoor.G Go.Proofs.YtomdigihapdhnaaGreatDoor.Pa Go.Proofs.YtomdigihapdhnaaGreatDoor.Wi
set_option linter.unusedSimpArgs false
set_option linter.unusedVariables false
set_option maxRecDepth 100000
variable {B : World} {ro σ σ' : AH} {tag tag' : Nat → Nat}

theorem glob_join (g : Glob ro) (σ : AH) : Glob (join ro σ) := by
  obtain ⟨⟨m, o, h1, h2⟩, h3⟩ := g
  exact ⟨⟨m, o, join_left h1, h2⟩, fun w hw => h3 w fun b o hb => hw b o (join_left hb)⟩
theorem putRep_c {rs ds ns es : Sl} {x : Rep} {Q : Sl → Int → AH → Prop} (hx : RepD ro σ rs ds ns es x) (hsm : Sm20 x) (hb : -9223372036854775808 ≤ x.bad)
    (hQ : ∀ s tag' σ', (∀ R, Step R ro tag σ tag' σ') → Row tag' σ' 6 5 s (((putRep x).getD []).map vU) → Q s (if (putRep x).isSome then 0 else 170) σ') : c_store_PutReply B ro x.code x.session rs x.bad ds x.ver x.ctr x.own x.kids ns es x.epoch σ Q :=
  putReply_f (tag := tag) hx hsm hb (fun h tag' σ' st => by have := hQ nS tag' σ' st; rw [h] at this; exact this (Row.nil _ _)) fun b h s tag' σ' st r => by have := hQ s tag' σ' st; rw [h] at this; exact this r
theorem rputRep_c {rs ds ns es : Sl} {x : Rep} {Q : Sl → Bool → AH → Prop} (hx : RepD ro σ rs ds ns es x) (hsm : Sm20 x)
    (hQ : ∀ s tag' σ', (∀ R, Step R ro tag σ tag' σ') → Row tag' σ' 6 5 s (((putRep x).getD []).map vU) → Q s (putRep x).isSome σ') : c_ref17_PutReply B ro x.code x.session rs x.bad ds x.ver x.ctr x.own x.kids ns es x.epoch σ Q :=
  rputReply_ok (tag := tag) hx hsm (fun h tag' σ' st => by have := hQ nS tag' σ' st; rw [h] at this; exact this (Row.nil _ _)) fun b h s tag' σ' st r => by have := hQ s tag' σ' st; rw [h] at this; exact this r
theorem RepD.nil : RepD ro σ nS nS nS nS Rep.zero := by
  have h : ∀ w, SL.ReadW ro σ w nS [] := fun w => ⟨rfl, fun _ => rfl, fun _ h => by (first | cases h | simp at h), fun p hp => by cases hp⟩
  exact ⟨h 2, ⟨rfl, fun _ => rfl, fun p hp => by cases hp⟩, ⟨rfl, fun _ => rfl, fun p hp => by cases hp⟩, h 3⟩
theorem getRep_c {a0 : Sl} {b : Str} {Q : Int → Int → Sl → Int → Sl → Int → Int → Int → Int → Sl → Sl → Int → Int → AH → Prop} (h : SL.Read ro σ a0 (b.map vU)) (hl : b.length ≤ 140737488355328)
    (hQ : ∀ x rs ds ns es tag' σ', x = (getRep b).getD Rep.zero → (∀ R, Step R ro tag σ tag' σ') → RepD ro σ' rs ds ns es x → Q x.code x.session rs x.bad ds x.ver x.ctr x.own x.kids ns es x.epoch (if (getRep b).isSome then 0 else 13) σ') : c_store_GetReply B ro a0 σ Q :=
  getReply_f (tag := tag) h hl (fun h tag' σ' st => by have := hQ Rep.zero nS nS nS nS tag' σ'; rw [h] at this; exact this rfl st RepD.nil) fun x h rs ds ns es tag' σ' st r => by
    have := hQ x rs ds ns es tag' σ'; rw [h] at this; exact this rfl st (r.d (st []).sep)
theorem rgetRep_c {a0 : Sl} {b : Str} {Q : Int → Int → Sl → Int → Sl → Int → Int → Int → Int → Sl → Sl → Int → Bool → AH → Prop} (h : SL.Read ro (fun _ => none) a0 (b.map vU)) (hcap : a0.len ≤ a0.cap) (hl : b.length ≤ 140737488355328)
    (hQ : ∀ x rs ds ns es tag' σ', x = (getRep b).getD Rep.zero → (∀ R, Step R ro tag σ tag' σ') → RepD ro σ' rs ds ns es x → Q x.code x.session rs x.bad ds x.ver x.ctr x.own x.kids ns es x.epoch (getRep b).isSome σ') : c_ref17_GetReply B ro a0 σ Q :=
  rgetReply_ok (tag := tag) h hcap hl (fun h tag' σ' st => by have := hQ Rep.zero nS nS nS nS tag' σ'; rw [h] at this; exact this rfl st RepD.nil) fun x h rs ds ns es tag' σ' st r => by
    have := hQ x rs ds ns es tag' σ'; rw [h] at this; exact this rfl st (r.d (st []).sep)
theorem hle_none : HLe (fun _ => none) σ := fun b o h => by cases h
abbrev repV (x : Rep) (rs ds ns es : Sl) : List Value := [vI x.code, vI x.session, Sl.v rs, vI x.bad, Sl.v ds, vI x.ver, vI x.ctr, vI x.own, vI x.kids, Sl.v ns, Sl.v es, vI x.epoch]
theorem same_yes {x : Rep} (h : okRep x) : decide (putRep x ≠ none ∧ putRep x = putRep x) = true := by
  unfold putRep; rw [if_pos h]; simp
theorem ok_of {x : Rep} (h : (putRep x).isSome = true) : okRep x := by
  unfold putRep at h
  split at h
  · assumption
  · cases h
theorem getD_len {x : Rep} (sx : Sm20 x) : ((putRep x).getD []).length ≤ 5000000100 := by
  cases h : putRep x with
  | none => simp
  | some b =>
    have hk := ok_of (x := x) (by rw [h]; rfl)
    unfold putRep at h
    rw [if_pos hk] at h
    cases h
    show (encRep x).length ≤ 5000000100
    have e : (encRep x).length = (wrep x).1.length := by rw [wrep_yes hk sx]
    have a := wr6_len x sx hk.1 hk.2.1 hk.2.2.1
    have c := wnum_len (wr6 x) x.epoch
    unfold wrep at e
    omega
theorem j21_ok {tag : Nat → Nat} {σ : AH} {X : Nat} {rs ds ns es s17 : Sl} {x : Rep} {e : TypeId} (g : Glob ro) (hs : SL.Sep ro σ) (x9 : Row tag σ 12 e ⟨some ⟨X, 0, none⟩, 12, 12⟩ (repV x rs ds ns es)) (r : SL.Read ro σ s17 (((putRep x).getD []).map vU)) (dx : RepD ro σ rs ds ns es x) (sx : Sm20 x)
    : j21_law17_StoreReplies B ro X s17 (putRep x).isSome (fun r _ => r = true) false σ := by
  unfold j21_law17_StoreReplies
  rw [if_neg (by simp)]
  by_cases hp : (putRep x).isSome = true
  rotate_left
  · rw [if_pos hp]
    exact awake17_ok (tag := tag) g fun _ _ _ => rfl
  rw [if_neg (by simp [hp])]
  have hk := ok_of hp
  have hg : getRep ((putRep x).getD []) = some x := by
    cases h : putRep x with
    | none => rw [h] at hp; cases hp
    | some b => exact getRep_put h sx.small
  refine getRep_c (tag := tag) r (by have := getD_len sx; omega) fun y rsy dsy nsy esy tag1 σ1 hy st1 d1 => ?_
  have hyx : y = x := by rw [hy, hg]; rfl
  subst hyx
  refine nw_st (tag := tag1) 15 (st1 []).sep rfl (by simp [storable, Sl.v]) fun Y tag2 σ2 st2 y2 => ?_
  have hs2 := (st2 []).sep
  have x2 := (x9.keep (st1 []) (by simp)).keep (st2 []) (by simp)
  have d2 : RepD ro σ2 rsy dsy nsy esy y := d1.hle (hle_of st2)
  have dx2 : RepD ro σ2 rs ds ns es y := (dx.hle (hle_of st1)).hle (hle_of st2)
  refine lent_all ?_
  rw [hg]
  show if (0 : Int) = 0 then _ else _
  rw [if_pos rfl]
  refine ⟨_, _, _, _, _, _, _, _, _, _, _, _, cells_of ((x2.read hs2).all hs2) rfl, ?_⟩
  refine ⟨_, _, _, _, _, _, _, _, _, _, _, _, cells_of ((y2.read hs2).all hs2) rfl, ?_⟩
  refine lreply_ok (tag := T7) (d2.all hs2) (by have := hk.1; omega) (by have := hk.2.2.1; omega) fun rs3 es3 tag3 σ3 st3 d3 => ?_
  refine lreply_ok (tag := tag3) ((dx2.all hs2).hle hle_none) (by have := hk.1; omega) (by have := hk.2.2.1; omega) fun rs4 es4 tag4 σ4 st4 d4 => ?_
  refine rsame_ok (tag := tag4) (d3.hle (hle_of st4)) d4 sx sx fun tag5 σ5 st5 => ?_
  rw [same_yes hk, if_pos rfl]
  refine awake17_ok (tag := tag5) (glob_join g _) fun tag6 σ6 st6 => ?_
  intro hd
  rfl
set_option maxHeartbeats 4000000 in
theorem replies_ok {rs ds ns es a1 : Sl} {x : Rep} {b : Str} (g : Glob ro) (hx : RepD ro (fun _ => none) rs ds ns es x) (hb : SL.Read ro (fun _ => none) a1 (b.map vU)) (hcap : a1.len ≤ a1.cap) (sx : Sm20 x) (hbad : -9223372036854775808 ≤ x.bad)
    (h1 : x.results.length ≤ 1048576) (h3 : x.events.length ≤ 1048576) (hl : b.length ≤ 1048576) : c_law17_StoreReplies B ro x.code x.session rs x.bad ds x.ver x.ctr x.own x.kids ns es x.epoch a1 σ fun r _ => r = true := by
  refine law17_StoreReplies_ok fun hs => ?_
  unfold f_law17_StoreReplies
  refine nw_cells (tag := T7) 12 hs fun X tag1 σ1 st1 x1 => ?_
  refine ⟨_, _, _, _, _, _, _, _, _, _, _, _, cells_of (x1.read (st1 []).sep) rfl, ?_⟩
  refine putRep_c (tag := tag1) (hx.hle hle_none) sx hbad fun s17 tag2 σ2 st2 r17 => ?_
  have x2 := x1.keep (st2 []) (by simp)
  refine ⟨_, _, _, _, _, _, _, _, _, _, _, _, cells_of (x2.read (st2 []).sep) rfl, ?_⟩
  refine lreply_ok (tag := tag2) (hx.hle hle_none) (by omega) (by omega) fun rs3 es3 tag3 σ3 st3 d3 => ?_
  refine rputRep_c (tag := tag3) d3 sx fun s23 tag4 σ4 st4 r23 => ?_
  refine copy_ok (tag := tag4) (hb.hle hle_none) (st4 []).sep (by simp; omega) (fun v hv => by obtain ⟨c, _, rfl⟩ := List.mem_map.1 hv; rfl) fun s28 tag5 σ5 st5 r28 => ?_
  refine getRep_c (tag := tag5) (r28.read (st5 []).sep) (by omega) fun y rsy dsy nsy esy tag6 σ6 hy st6 d6 => ?_
  refine nw_st (tag := tag6) 13 (st6 []).sep rfl (by simp [storable, Sl.v]) fun Y tag7 σ7 st7 y7 => ?_
  refine rgetRep_c (tag := tag7) hb hcap (by omega) fun z rsz dsz nsz esz tag8 σ8 hz st8 d8 => ?_
  refine nw_st (tag := tag8) 14 (st8 []).sep rfl (by simp [storable, Sl.v]) fun Z tag9 σ9 st9 z9 => ?_
  have k7 : ∀ R, Step R ro tag7 σ7 tag9 σ9 := fun R => (st8 R).trans (st9 R)
  have k6 : ∀ R, Step R ro tag6 σ6 tag9 σ9 := fun R => (st7 R).trans (k7 R)
  have k4 : ∀ R, Step R ro tag4 σ4 tag9 σ9 := fun R => (st5 R).trans ((st6 R).trans (k6 R))
  have k2 : ∀ R, Step R ro tag2 σ2 tag9 σ9 := fun R => (st3 R).trans ((st4 R).trans (k4 R))
  have x9 := x2.keep (k2 []) (by simp)
  have r17' := r17.keep (k2 []) (by simp)
  have r23' := r23.keep (k4 []) (by simp)
  have y9 := y7.keep (k7 []) (by simp)
  have hs9 := (st9 []).sep
  have dx : RepD ro σ9 rs ds ns es x := hx.hle hle_none
  have dy : RepD ro σ9 rsy dsy nsy esy y := d6.hle (hle_of k6)
  have dz : RepD ro σ9 rsz dsz nsz esz z := d8.hle (hle_of st9)
  refine same_ok (r17'.read hs9) (r23'.read hs9) ?_
  clear k7 k6 k4 k2 st1 st2 st3 st4 st5 st6 st7 st8 st9 x2 r17 r23 y7 d6 d8 d3 r28
  have hzy : z = y := hz.trans hy.symm
  subst hzy
  rw [if_neg (by cases putRep x <;> simp), show ((!(putRep x).isSome) && (!(decide ((if (putRep x).isSome then (0 : Int) else 170) = 170)))) = false by cases putRep x <;> simp]
  unfold j17_law17_StoreReplies
  rw [if_neg (by cases getRep b <;> simp), show ((!(getRep b).isSome) && (!(decide ((if (getRep b).isSome then (0 : Int) else 13) = 13)))) = false by cases getRep b <;> simp]
  unfold j19_law17_StoreReplies
  rw [if_neg (by simp)]
  refine lent_all ?_
  by_cases hq : (getRep b).isSome = true
  rotate_left
  · rw [if_neg hq]
    intro hd
    rw [join_none_right]
    exact j21_ok g hs9 x9 (r17'.read hs9) dx sx
  rw [if_pos hq]
  have hg : getRep b = some z := by
    cases h : getRep b with
    | none => rw [h] at hq; cases hq
    | some q => rw [h] at hz; rw [hz]; rfl
  have hk := getRep_ok hg
  have sz := getRep_sm hg hl
  refine ⟨_, _, _, _, _, _, _, _, _, _, _, _, cells_of ((z9.read hs9).all hs9) rfl, ?_⟩
  refine ⟨_, _, _, _, _, _, _, _, _, _, _, _, cells_of ((y9.read hs9).all hs9) rfl, ?_⟩
  refine lreply_ok (tag := T7) (dy.all hs9) (by have := hk.1; omega) (by have := hk.2.2.1; omega) fun rs3 es3 tag3 σ3 st3 d3 => ?_
  refine rsame_ok (tag := tag3) d3 ((dz.all hs9).hle hle_none) sz sz fun tag4 σ4 st4 => ?_
  rw [same_yes hk]
  intro hd
  have k : ∀ R, Step R ro tag9 σ9 (mixT σ9 tag9 tag4) (join σ9 σ4) := all_step hs9 hd (st4 []).sep tag9
  exact j21_ok g (k []).sep (x9.keep (k []) (by simp)) ((r17'.keep (k []) (by simp)).read (k []).sep) (dx.hle (hle_of k)) sx
end Go.Proofs.YtomdigihapdhnaaGreatDoor.Zt

/- Arguments of small bulk, to whatever depth. -/
namespace Go.Proofs.YtomdigihapdhnaaGreatDoor.SL
open Go
set_option linter.unusedSimpArgs false
set_option linter.unusedVariables false
def UArg (n : Nat) (P : Program) (W : World) (H : Type) (enc : TypeId × Value → H) (t : TypeId) (cs : List Value) : Prop := ∃ fuel d ps, DataW.trod enc P W 0 (fun _ => true) true fuel t cs = some (d, ps) ∧ (d.weights P t).all (· ≤ reachBytes) = true ∧ Rows.uptoBulk d ≤ n
variable {n : Nat} {P : Program} {W : World} {H : Type} {enc : TypeId × Value → H}
theorem UArg.arg {t : TypeId} {cs : List Value} (h : UArg n P W H enc t cs) : Arg P W H enc t cs := by
  obtain ⟨f, d, ps, h1, h2, _⟩ := h
  exact ⟨f, d, ps, h1, h2⟩
theorem UArg.slice {t e : TypeId} {a : Option Addr} {len cap : Nat} (ht : P.underlying t = some (.slice e)) (h : UArg n P W H enc t [.slice a len cap]) :
    (a = none ∧ len = 0 ∧ cap = 0) ∨ ∃ x, a = some x ∧ len ≤ cap ∧ len ≤ n ∧ ∀ j, j < len → ∃ cs, cs.length = P.cellsOf e ∧ (∀ i, i < P.cellsOf e → W.cell? ((x.add (j * P.cellsOf e)).add i) = cs[i]?) ∧ UArg n P W H enc e cs := by
  obtain ⟨fuel, d, ps, hf, hw, hb⟩ := h
  rcases Go.Deep.open_slice ht hf with ⟨hcs, _⟩ | ⟨x, l, c, m, k, D, Pl, hcs, _, hl, _, hm, hx, hel⟩
  · simp at hcs; exact .inl hcs
  · simp at hcs
    obtain ⟨rfl, rfl, rfl⟩ := hcs
    simp only [Prod.mk.injEq] at hx
    rw [hx.1] at hw hb
    rw [DataW.weights, ht] at hw
    simp only [Rows.uptoBulk] at hb
    simp only [List.all_cons, List.all_append, Bool.and_eq_true, decide_eq_true_eq, List.length_map, List.length_range] at hw
    refine .inr ⟨x, rfl, hl, ?_, fun j hj => ?_⟩
    · have := bulkAll_len ((List.range len).map D)
      simp at this
      omega
    · obtain ⟨cs, h1, h2⟩ := hel j (by simp at hm; omega)
      obtain ⟨_, h3, h4⟩ := World.cells?_some h1
      have := bulkAll_get (l := (List.range len).map D) (i := j) (d := D j) (by rw [List.getElem?_map, List.getElem?_range hj]; rfl)
      exact ⟨cs, h3, h4, k, D j, Pl j, h2, weightsAll_get (List.mem_map.2 ⟨j, List.mem_range.2 hj, rfl⟩) hw.2.1, by omega⟩
theorem UArg.struct {t : TypeId} {fs : Array Field} {cs : List Value} (ht : P.underlying t = some (.struct fs)) (h : UArg n P W H enc t cs) :
    cs.length = P.cellsOf t ∧ ∀ (i : Nat) (f : Field), fs.toList[i]? = some f → UArg n P W H enc f.type ((cs.drop f.offset).take (P.cellsOf f.type)) := by
  obtain ⟨fuel, d, ps, hf, hw, hb⟩ := h
  cases fuel with
  | zero => cases hf
  | succ m =>
    unfold DataW.trod at hf
    rw [ht] at hf
    simp only at hf
    split at hf
    · rename_i hl
      refine ⟨hl, fun i f hi => ?_⟩
      obtain ⟨r, hr, hd⟩ := Option.map_eq_some_iff.1 hf
      have h1 := mapM_some_get hr i f hi
      have h2 := mapM_some_length hr
      have hil : i < fs.toList.length := by
        rcases Nat.lt_or_ge i fs.toList.length with h' | h'
        · exact h'
        · rw [List.getElem?_eq_none h'] at hi; cases hi
      rw [List.getElem?_eq_getElem (by omega)] at h1
      simp only [Prod.mk.injEq] at hd
      rw [← hd.1] at hb
      simp only [Rows.uptoBulk] at hb
      rw [← hd.1, DataW.weights, ht] at hw
      have := bulkAll_get (l := r.map (·.1)) (i := i) (d := r[i].1) (by rw [List.getElem?_map, List.getElem?_eq_getElem (by omega)]; rfl)
      refine ⟨m, r[i].1, r[i].2, h1, weightsEach_get (ts := fs.toList.map (·.type)) (i := i) (by rw [List.getElem?_map, hi]; rfl) (by rw [List.getElem?_map, List.getElem?_eq_getElem (by omega)]; rfl) hw, by omega⟩
    · cases hf
theorem UArg.field {t t' : TypeId} {o : Nat} {L : List (TypeId × Nat)} {cs : List Value} (hu : ∃ fs, P.underlying t = some (.struct fs) ∧ fs.toList.map (fun f : Field => (f.type, f.offset)) = L) (h : UArg n P W H enc t cs) (i : Nat) (hi : L[i]? = some (t', o)) : UArg n P W H enc t' ((cs.drop o).take (P.cellsOf t')) := by
  obtain ⟨fs, hu, hfs⟩ := hu
  rw [← hfs, List.getElem?_map] at hi
  obtain ⟨f, hf, e⟩ := Option.map_eq_some_iff.1 hi
  have := (h.struct hu).2 i f hf
  simp only [Prod.mk.injEq] at e
  rwa [e.1, e.2] at this
theorem UArg.i64 {t : TypeId} {u : Value} (ht : P.underlying t = some (.int .i64)) (h : UArg n P W H enc t [u]) : ∃ x : Int, u = .int .i64 x ∧ -9223372036854775808 ≤ x := by
  obtain ⟨fuel, d, ps, hf, _⟩ := h
  obtain ⟨x, h, h2, _⟩ := trod_i64 ht hf
  exact ⟨x, h, h2⟩
theorem UArg.text {t : TypeId} {u : Value} (ht : P.underlying t = some .string) (h : UArg n P W H enc t [u]) : ∃ s : ByteArray, u = .string s ∧ s.size ≤ n := by
  obtain ⟨s, rfl, _⟩ := Arg.str ht h.arg
  refine ⟨s, rfl, ?_⟩
  obtain ⟨fuel, d, ps, hf, _, hb⟩ := h
  cases fuel with
  | zero => cases hf
  | succ m =>
    unfold DataW.trod at hf
    rw [ht] at hf
    simp at hf
    obtain ⟨_, rfl, _⟩ := hf
    simp only [Rows.uptoBulk] at hb
    simp at hb
    omega
theorem UArg.isSlice {t e : TypeId} {v : Value} (ht : P.underlying t = some (.slice e)) (h : UArg n P W H enc t [v]) : ∃ s : Sl, v = Sl.v s := by
  obtain ⟨fuel, d, ps, hf, _⟩ := h
  rcases Go.Deep.open_slice ht hf with ⟨e, _⟩ | ⟨x, l, c, _, _, _, _, e, _⟩
  · simp at e; exact ⟨⟨none, 0, 0⟩, e⟩
  · simp at e; exact ⟨⟨some x, l, c⟩, e⟩
/-- a slice of elements that each have a meaning -/
theorem UArg.rows {α : Type} [Inhabited α] {t e : TypeId} {w : Nat} {s : Sl} {V : α → List Value} {G : α → Prop} (ht : P.underlying t = some (.slice e)) (hw : P.cellsOf e = w) (hV : ∀ y, (V y).length = w) (hd : ∀ cs, UArg n P W H enc e cs → cs.length = w → ∃ y, cs = V y ∧ G y) (h : UArg n P W H enc t [Sl.v s]) :
    ∃ l : List α, l.length ≤ n ∧ ReadW (all W) (fun _ => none) w s (l.map V) ∧ (∀ y ∈ l, G y) ∧ s.len ≤ s.cap := by
  obtain ⟨a, len, cap⟩ := s
  rcases UArg.slice ht h with ⟨rfl, rfl, rfl⟩ | ⟨x, rfl, hl, hb, hel⟩
  · exact ⟨[], by simp, ⟨rfl, fun _ => rfl, (fun _ h => by cases h), fun p h => by cases h⟩, (fun _ h => by cases h), Nat.le_refl _⟩
  · rw [hw] at hel
    have key : ∀ j : Nat, ∃ y : α, j < len → (∀ i, i < w → W.cell? ((x.add (j * w)).add i) = (V y)[i]?) ∧ G y := fun j => by
      by_cases hj : j < len
      · obtain ⟨cs, h1, h2, h3⟩ := hel j hj
        obtain ⟨y, rfl, hy⟩ := hd cs h3 h1
        exact ⟨y, fun _ => ⟨h2, hy⟩⟩
      · exact ⟨default, fun h => absurd h hj⟩
    obtain ⟨f, hf⟩ := Classical.axiomOfChoice key
    have hlen : ((List.range len).map f).length = len := by simp
    refine ⟨(List.range len).map f, by rw [hlen]; exact hb, ⟨by simp, (fun h => by cases h), ?_, fun p hp i v hv => ?_⟩, fun y hy => ?_, hl⟩
    · intro z hz
      obtain ⟨y, _, rfl⟩ := List.mem_map.1 hz
      exact hV y
    · cases hp
      have hwid : ∀ z ∈ ((List.range len).map f).map V, z.length = w := fun z hz => by
        obtain ⟨y, _, rfl⟩ := List.mem_map.1 hz
        exact hV y
      have hfl := flat_len hwid
      rw [List.length_map, hlen] at hfl
      have hi : i < len * w := by
        rcases Nat.lt_or_ge i (len * w) with h | h
        · exact h
        · rw [List.getElem?_eq_none (by omega)] at hv; cases hv
      have hw0 : 0 < w := by
        rcases Nat.eq_zero_or_pos w with h | h
        · rw [h] at hi; simp at hi
        · exact h
      have hdm := Nat.div_add_mod i w
      have hj : i / w < len := Nat.div_lt_of_lt_mul (by rw [Nat.mul_comm]; exact hi)
      have hm := Nat.mod_lt i hw0
      have he : (((List.range len).map f).map V)[i / w]? = some (V (f (i / w))) := by
        rw [List.getElem?_map, List.getElem?_map, List.getElem?_range hj]; rfl
      have hg := flat_get hwid he hm
      rw [Nat.mul_comm] at hdm
      rw [hdm, hv] at hg
      have := (hf _ hj).1 _ hm
      rw [add_add', hdm, ← hg] at this
      exact all_cell _ this
    · obtain ⟨j, hj, rfl⟩ := List.mem_map.1 hy
      exact (hf j (List.mem_range.1 hj)).2
theorem flat_one {α : Type} (f : α → Value) (l : List α) : (l.map fun y => [f y]).flatten = l.map f := by
  induction l with
  | nil => rfl
  | cons a l ih => rw [List.map_cons, List.flatten_cons, ih]; rfl
theorem ReadW.one {s : Sl} {α : Type} {f : α → Value} {l : List α} {ro σ : AH} (h : ReadW ro σ 1 s (l.map fun y => [f y])) : Read ro σ s (l.map f) := by
  refine ⟨by rw [h.1]; simp, fun hn => ?_, fun p hp i v hv => h.2.2.2 p hp i v (by rw [flat_one]; exact hv)⟩
  have := h.2.1 hn
  simpa using this
end Go.Proofs.YtomdigihapdhnaaGreatDoor.SL

/- StoreReplies: the reply as it stands in the arguments. -/
namespace Go.Proofs.YtomdigihapdhnaaGreatDoor.Zt
open Go Go.Proofs.YtomdigihapdhnaaGreatDoor.SL Go.Proofs.YtomdigihapdhnaaGreatDoor.G Go.Proofs.YtomdigihapdhnaaGreatDoor.Pa Go.Proofs.YtomdigihapdhnaaGreatDoor.Wi
set_option linter.unusedSimpArgs false
set_option linter.unusedVariables false
set_option maxRecDepth 100000
theorem sReply : ∃ fs, Tryz.prog.underlying 30 = some (.struct fs) ∧ fs.toList.map (fun f : Field => (f.type, f.offset)) = [(22, 0), (3, 1), (23, 2), (3, 3), (24, 4), (26, 5), (27, 9), (28, 10), (3, 11)] := ⟨_, Tryz.underlying30, rfl⟩
theorem sStat : ∃ fs, Tryz.prog.underlying 26 = some (.struct fs) ∧ fs.toList.map (fun f : Field => (f.type, f.offset)) = [(3, 0), (3, 1), (3, 2), (3, 3)] := ⟨_, Tryz.underlying26, rfl⟩
theorem sRes : ∃ fs, Tryz.prog.underlying 128 = some (.struct fs) ∧ fs.toList.map (fun f : Field => (f.type, f.offset)) = [(9, 0), (3, 1)] := ⟨_, Tryz.underlying128, rfl⟩
theorem sEv : ∃ fs, Tryz.prog.underlying 132 = some (.struct fs) ∧ fs.toList.map (fun f : Field => (f.type, f.offset)) = [(3, 0), (3, 1), (9, 2)] := ⟨_, Tryz.underlying132, rfl⟩
theorem kReply : Tryz.prog.cellsOf 30 = 12 := by kernel_rfl
theorem kStat : Tryz.prog.cellsOf 26 = 4 := by kernel_rfl
theorem kRes : Tryz.prog.cellsOf 128 = 2 := by kernel_rfl
theorem kEv : Tryz.prog.cellsOf 132 = 3 := by kernel_rfl
theorem k3 : Tryz.prog.cellsOf 3 = 1 := by kernel_rfl
theorem k5 : Tryz.prog.cellsOf 5 = 1 := by kernel_rfl
theorem k9 : Tryz.prog.cellsOf 9 = 1 := by kernel_rfl
theorem kErr : Tryz.prog.cellsOf 22 = 1 := by kernel_rfl
theorem kL1 : Tryz.prog.cellsOf 23 = 1 := by kernel_rfl
theorem kL2 : Tryz.prog.cellsOf 24 = 1 := by kernel_rfl
theorem kL3 : Tryz.prog.cellsOf 27 = 1 := by kernel_rfl
theorem kL4 : Tryz.prog.cellsOf 28 = 1 := by kernel_rfl
theorem uErr : Tryz.prog.underlying 22 = some (.int .i64) := by kernel_rfl
theorem uL1 : Tryz.prog.underlying 23 = some (.slice 128) := by kernel_rfl
theorem uL2 : Tryz.prog.underlying 24 = some (.slice 5) := by kernel_rfl
theorem uL3 : Tryz.prog.underlying 27 = some (.slice 9) := by kernel_rfl
theorem uL4 : Tryz.prog.underlying 28 = some (.slice 132) := by kernel_rfl
theorem uB5 : Tryz.prog.underlying 5 = some (.int .u8) := by kernel_rfl
theorem u4b : Tryz.prog.underlying 4 = some .bool := by kernel_rfl
theorem uI3 : Tryz.prog.underlying 3 = some (.int .i64) := by kernel_rfl
variable {n : Nat} {W : World} {H : Type} {enc : TypeId × Value → H}
theorem bytesU {s : Sl} (h : UArg n Tryz.prog W H enc 24 [Sl.v s]) : ∃ d : Str, d.length ≤ n ∧ SL.Read (all W) (fun _ => none) s (d.map vU) ∧ s.len ≤ s.cap := by
  obtain ⟨l, h1, h2, _, h4⟩ := UArg.rows (α := UInt8) (V := fun c => [vU c]) (G := fun _ => True) uL2 k5 (fun _ => rfl) (fun cs hc hl => by
    match cs, hl with
    | [u], _ =>
      obtain ⟨c, rfl⟩ := Arg.u8 uB5 hc.arg
      exact ⟨c, rfl, trivial⟩) h
  exact ⟨l, h1, h2.one, h4⟩
theorem namesU {s : Sl} (h : UArg n Tryz.prog W H enc 27 [Sl.v s]) : ∃ d : List Str, SL.Read (all W) (fun _ => none) s (d.map Pa.vS) ∧ ∀ y ∈ d, y.length ≤ n := by
  obtain ⟨l, h1, h2, h3, _⟩ := UArg.rows (α := Str) (V := fun c => [Pa.vS c]) (G := fun y => y.length ≤ n) uL3 k9 (fun _ => rfl) (fun cs hc hl => by
    match cs, hl with
    | [u], _ =>
      obtain ⟨c, rfl, h⟩ := UArg.text u9 hc
      exact ⟨L c, by simp [Pa.vS], h⟩) h
  exact ⟨l, h2.one, h3⟩
theorem resU {s : Sl} (h : UArg n Tryz.prog W H enc 23 [Sl.v s]) : ∃ d : List (Str × Int), d.length ≤ n ∧ SL.ReadW (all W) (fun _ => none) 2 s (d.map resV) ∧ ∀ y ∈ d, y.1.length ≤ n := by
  obtain ⟨l, h1, h2, h3, _⟩ := UArg.rows (α := Str × Int) (V := resV) (G := fun y => y.1.length ≤ n) uL1 kRes (fun _ => rfl) (fun cs hc hl => by
    match cs, hl with
    | [u, v], _ =>
      have a0 := hc.field sRes 0 rfl
      have a1 := hc.field sRes 1 rfl
      rw [k9] at a0
      rw [k3] at a1
      obtain ⟨c, rfl, h⟩ := UArg.text u9 a0
      obtain ⟨x, rfl, _⟩ := UArg.i64 uI3 a1
      exact ⟨(L c, x), by simp [resV, Pa.vS], h⟩) h
  exact ⟨l, h1, h2, h3⟩
theorem evsU {s : Sl} (h : UArg n Tryz.prog W H enc 28 [Sl.v s]) : ∃ d : List (Int × Int × Str), d.length ≤ n ∧ SL.ReadW (all W) (fun _ => none) 3 s (d.map evV') ∧ ∀ y ∈ d, y.2.2.length ≤ n := by
  obtain ⟨l, h1, h2, h3, _⟩ := UArg.rows (α := Int × Int × Str) (V := evV') (G := fun y => y.2.2.length ≤ n) uL4 kEv (fun _ => rfl) (fun cs hc hl => by
    match cs, hl with
    | [u, v, w], _ =>
      have a0 := hc.field sEv 0 rfl
      have a1 := hc.field sEv 1 rfl
      have a2 := hc.field sEv 2 rfl
      rw [k3] at a0 a1
      rw [k9] at a2
      obtain ⟨x, rfl, _⟩ := UArg.i64 uI3 a0
      obtain ⟨y, rfl, _⟩ := UArg.i64 uI3 a1
      obtain ⟨c, rfl, h⟩ := UArg.text u9 a2
      exact ⟨(x, y, L c), by simp [evV', Pa.vS], h⟩) h
  exact ⟨l, h1, h2, h3⟩
theorem reply_of {cs : List Value} (h : UArg 1048576 Tryz.prog W H enc 30 cs) : ∃ x rs ds ns es, cs = repV x rs ds ns es ∧ RepD (all W) (fun _ => none) rs ds ns es x ∧ Sm20 x ∧ -9223372036854775808 ≤ x.bad ∧ x.results.length ≤ 1048576 ∧ x.events.length ≤ 1048576 := by
  have hl : cs.length = 12 := by
    obtain ⟨fs, hu, _⟩ := sReply
    rw [(h.struct hu).1, kReply]
  match cs, hl with
  | [v0, v1, v2, v3, v4, v5, v6, v7, v8, v9, v10, v11], _ =>
    have a0 := h.field sReply 0 rfl
    have a1 := h.field sReply 1 rfl
    have a2 := h.field sReply 2 rfl
    have a3 := h.field sReply 3 rfl
    have a4 := h.field sReply 4 rfl
    have a5 := h.field sReply 5 rfl
    have a9 := h.field sReply 6 rfl
    have a10 := h.field sReply 7 rfl
    have a11 := h.field sReply 8 rfl
    rw [kErr] at a0
    rw [k3] at a1 a3 a11
    rw [kL1] at a2
    rw [kL2] at a4
    rw [kStat] at a5
    rw [kL3] at a9
    rw [kL4] at a10
    have b0 := a5.field sStat 0 rfl
    have b1 := a5.field sStat 1 rfl
    have b2 := a5.field sStat 2 rfl
    have b3 := a5.field sStat 3 rfl
    rw [k3] at b0 b1 b2 b3
    obtain ⟨x0, rfl, _⟩ := UArg.i64 uErr a0
    obtain ⟨x1, rfl, _⟩ := UArg.i64 uI3 a1
    obtain ⟨x3, rfl, hb⟩ := UArg.i64 uI3 a3
    obtain ⟨x5, rfl, _⟩ := UArg.i64 uI3 b0
    obtain ⟨x6, rfl, _⟩ := UArg.i64 uI3 b1
    obtain ⟨x7, rfl, _⟩ := UArg.i64 uI3 b2
    obtain ⟨x8, rfl, _⟩ := UArg.i64 uI3 b3
    obtain ⟨x11, rfl, _⟩ := UArg.i64 uI3 a11
    obtain ⟨rs, rfl⟩ := UArg.isSlice uL1 a2
    obtain ⟨ds, rfl⟩ := UArg.isSlice uL2 a4
    obtain ⟨ns, rfl⟩ := UArg.isSlice uL3 a9
    obtain ⟨es, rfl⟩ := UArg.isSlice uL4 a10
    obtain ⟨d, hd, rd, _⟩ := bytesU a4
    obtain ⟨N, rn, hn⟩ := namesU a9
    obtain ⟨R, lr, rr, hr⟩ := resU a2
    obtain ⟨E, le, re, he⟩ := evsU a10
    exact ⟨⟨x0, x1, R, x3, d, x5, x6, x7, x8, N, E, x11⟩, rs, ds, ns, es, rfl, ⟨rr, rd, rn, re⟩, ⟨hd, hr, hn, he⟩, hb, lr, le⟩
end Go.Proofs.YtomdigihapdhnaaGreatDoor.Zt

/- What is closed of StoreReplies' row, each fact a lemma of its own (one alone is all that the memory takes). -/
namespace Go.Proofs.YtomdigihapdhnaaGreatDoor.Zt
open Go Go.ChangeShapes Go.WideShapes Go.ChangeAt Go.RowKit
set_option maxRecDepth 100000
theorem sr_inPlace : (Rows.storeRepliesUptoRow.inPlace == Tryz.prog.inPlace 3) = true := by kernel_rfl
theorem sr_unf : (Rows.storeRepliesUptoRow.unfollowed == Tryz.prog.unfollowed 3) = true := by kernel_rfl
theorem sr_rec : (Rows.storeRepliesUptoRow.recurses == Tryz.prog.recurses 3) = true := by kernel_rfl
theorem sr_named : (Rows.storeRepliesUptoRow.named == Tryz.prog.varsNamed 3) = true := by kernel_rfl
theorem sr_laid : laidOutB Tryz.prog = true := laidOut
set_option maxHeartbeats 4000000 in
theorem sr_closed : joinedFacts Tryz.prog 3 Tryz.f3 (Rows.OpenSpec.upto Rows.storeRepliesSpec).bare Rows.storeRepliesUptoRow = true := by
  unfold joinedFacts
  rw [sr_inPlace, sr_unf, sr_rec, sr_named, sr_laid]
  simp only [Bool.and_eq_true]
  repeat' refine And.intro ?_ ?_
  all_goals first | exact trivial | (as_aux_lemma => kernel_rfl)
end Go.Proofs.YtomdigihapdhnaaGreatDoor.Zt
