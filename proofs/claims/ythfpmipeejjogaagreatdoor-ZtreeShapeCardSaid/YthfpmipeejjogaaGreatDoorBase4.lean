/- The base, fourth part: the swap of two operations, and the rule for a region that draws its order. Generic over any program. -/
import Derived.Test.YthfpmipeejjogaaGreatDoorBase3
namespace Go.Proofs.YthfpmipeejjogaaGreatDoor.SL
open Go
section
variable {P : Program} {B : World} {ro : AH} {N : Nat} {ops : Array Oper}

def single (b : Nat) (o : Obj) : AH := fun i => if i = b then some o else none
theorem upd_single {σ : AH} {b : Nat} (h : σ b = none) (o : Obj) : upd σ b o = join σ (single b o) := by
  funext i
  unfold upd join single
  by_cases e : i = b
  · subst e; rw [if_pos rfl, h]; simp
  · rw [if_neg e, if_neg e]; cases σ i <;> rfl
theorem Disj.single {σ : AH} {b : Nat} (h : σ b = none) (o : Obj) : Disj σ (single b o) := by
  intro i x hx
  unfold SL.single
  by_cases e : i = b
  · subst e; rw [h] at hx; cases hx
  · rw [if_neg e]
theorem upd_comm {σ : AH} {b c : Nat} (h : b ≠ c) (o p : Obj) : upd (upd σ b o) c p = upd (upd σ c p) b o := by
  funext i
  unfold upd
  by_cases e : i = c
  · subst e; rw [if_pos rfl, if_neg (fun q => h q.symm), if_pos rfl]
  · rw [if_neg e, if_neg e]
theorem upd_none {σ : AH} {b c : Nat} {o : Obj} (h : upd σ b o c = none) : c ≠ b ∧ σ c = none := by
  unfold upd at h
  split at h
  · cases h
  · rename_i e; exact ⟨e, h⟩
theorem upd_other {σ : AH} {b c : Nat} {o : Obj} (h : c ≠ b) (hs : σ c = none) : upd σ b o c = none := by unfold upd; rw [if_neg h]; exact hs

def swapOk (ops : Array Oper) (cl : Nat → Nat) (x i : Nat) : Bool :=
  match ops[x]?, ops[i]? with
  | some ox, some oi => ox.apart ops oi && noSel ox && noSel oi && (cl x == 0 || cl i == 0 || cl i == 1 || (cl x == 3 && cl i == 3))
  | _, _ => false

theorem put_swap {ox oi : Oper} (ha : ox.apart ops oi = true) (v u : Value) (fr : Fr) : FrEq (putF oi.dst u (putF ox.dst v fr)) (putF ox.dst v (putF oi.dst u fr)) :=
  (FrEq.comm (Oper.apart_spec ha).2.1 v u fr).symm

/-- Looking past a slot that is not looked at: the frame with it and the frame without. -/
theorem RVal.past {τ : AH} {o : Oper} (hs : noSel o = true) {d : Option Tmp} (hd : ∀ t, d = some t → t ∉ o.looksAt ops) {v : Value} {fr : Fr} {u : Value} (h : RVal P ro τ ops o (putF d v fr) u) : RVal P ro τ ops o fr u := by
  cases d with
  | none => exact h
  | some t => exact h.off hs (hd t rfl) (put_off)
theorem RVal.under {τ : AH} {o : Oper} (hs : noSel o = true) {d : Option Tmp} (hd : ∀ t, d = some t → t ∉ o.looksAt ops) {v : Value} {fr : Fr} {u : Value} (h : RVal P ro τ ops o fr u) : RVal P ro τ ops o (putF d v fr) u := by
  cases d with
  | none => exact h
  | some t => exact h.off hs (hd t rfl) (fun i hi => (put_off i hi).symm)
theorem NewEv.past {o : Oper} (hs : noSel o = true) {d : Option Tmp} (hd : ∀ t, d = some t → t ∉ o.looksAt ops) {v : Value} {fr : Fr} {ob : Obj} {mk : Nat → Value} (h : NewEv P ro o (putF d v fr) ob mk) : NewEv P ro o fr ob mk := by
  cases d with
  | none => exact h
  | some t => exact h.off hs (hd t rfl) (put_off)
theorem NewEv.under {o : Oper} (hs : noSel o = true) {d : Option Tmp} (hd : ∀ t, d = some t → t ∉ o.looksAt ops) {v : Value} {fr : Fr} {ob : Obj} {mk : Nat → Value} (h : NewEv P ro o fr ob mk) : NewEv P ro o (putF d v fr) ob mk := by
  cases d with
  | none => exact h
  | some t => exact h.off hs (hd t rfl) (fun i hi => (put_off i hi).symm)
theorem AStep.past {o : Oper} (hs : noSel o = true) {d : Option Tmp} (hd : ∀ t, d = some t → t ∉ o.looksAt ops) {w : Value} {fr : Fr} {K K' : Fr → AH → Prop} {σ : AH}
    (hk : ∀ v σ, K (putF o.dst v (putF d w fr)) σ → K' (putF o.dst v fr) σ) (h : AStep P B ro N ops o K (putF d w fr) σ) : AStep P B ro N ops o K' fr σ := by
  cases d with
  | none => exact h.eq (FrEq.refl _) hk
  | some t => exact h.off hs (hd t rfl) (put_off) hk
theorem AStep.under {o : Oper} (hs : noSel o = true) {d : Option Tmp} (hd : ∀ t, d = some t → t ∉ o.looksAt ops) {w : Value} {fr : Fr} {K K' : Fr → AH → Prop} {σ : AH}
    (hk : ∀ v σ, K (putF o.dst v fr) σ → K' (putF o.dst v (putF d w fr)) σ) (h : AStep P B ro N ops o K fr σ) : AStep P B ro N ops o K' (putF d w fr) σ := by
  cases d with
  | none => exact h.eq (FrEq.refl _) hk
  | some t => exact h.off hs (hd t rfl) (fun i hi => (put_off i hi).symm) hk
theorem NewEv.uniq {o : Oper} {fr : Fr} {ob ob' : Obj} {mk mk' : Nat → Value} (h : NewEv P ro o fr ob mk) (h' : NewEv P ro o fr ob' mk') : ob = ob' ∧ mk = mk' := by
  obtain ⟨k, h1, h2⟩ := h _ (ofFr_agrees fr)
  obtain ⟨k', h1', h2'⟩ := h' _ (ofFr_agrees fr)
  rw [h1] at h1'
  simp only [Option.some.injEq, Prod.mk.injEq] at h1'
  obtain ⟨rfl, rfl⟩ := h1'
  refine ⟨rfl, funext fun b => ?_⟩
  have := (h2 b).symm.trans (h2' b)
  simpa using this

theorem Live.fresh {σ : AH} (h : Live B ro σ) : ∃ b, ro b = none ∧ σ b = none := by
  obtain ⟨φ, w, h⟩ := h; exact ⟨_, h.to_new.2.2, h.to_new.1⟩

/-! the kinds, one by one -/
def isVal (cl : Nat → Nat) (i : Nat) : Prop := cl i = 0 ∨ cl i = 3
def srcOf (cl : Nat → Nat) (i : Nat) (σ : AH) : AH := if cl i = 0 then none' else σ
theorem D1_val {cl : Nat → Nat} {i : Nat} {o : Oper} {K : Fr → AH → Prop} {fr : Fr} {σ : AH} (ho : ops[i]? = some o) (hc : isVal cl i) :
    D1 P B ro N ops cl i K fr σ ↔ dstOk N o.dst = true ∧ ∃ u, RVal P ro (srcOf cl i σ) ops o fr u ∧ K (putF o.dst u fr) σ := by
  unfold D1 srcOf; rw [ho]; dsimp only
  rcases hc with hc | hc <;> rw [hc] <;> simp
theorem D1_new {cl : Nat → Nat} {i : Nat} {o : Oper} {K : Fr → AH → Prop} {fr : Fr} {σ : AH} (ho : ops[i]? = some o) (hc : cl i = 1) :
    D1 P B ro N ops cl i K fr σ ↔ dstOk N o.dst = true ∧ o.guard = none ∧ ∃ ob mk, NewEv P ro o fr ob mk ∧ ∀ b, ro b = none → σ b = none → K (putF o.dst (mk b) fr) (upd σ b ob) := by
  unfold D1; rw [ho]; dsimp only; rw [hc]; exact Iff.rfl
theorem D1_gen {cl : Nat → Nat} {i : Nat} {o : Oper} {K : Fr → AH → Prop} {fr : Fr} {σ : AH} (ho : ops[i]? = some o) (h0 : cl i ≠ 0) (h1 : cl i ≠ 1) (h3 : cl i ≠ 3) :
    D1 P B ro N ops cl i K fr σ ↔ AStep P B ro N ops o K fr σ := by
  unfold D1; rw [ho]; dsimp only
  split
  · rename_i e; exact absurd e h0
  · rename_i e; exact absurd e h3
  · rename_i e; exact absurd e h1
  · exact Iff.rfl
theorem srcOf_mono {cl : Nat → Nat} {i : Nat} {σ σ' : AH} (h : HLe σ σ') : HLe (srcOf cl i σ) (srcOf cl i σ') := by
  unfold srcOf; split
  · exact HLe.refl _
  · exact h
theorem HLe.upd' {σ : AH} {b : Nat} (hb : σ b = none) (o : Obj) : HLe σ (upd σ b o) := by
  intro i x hx
  unfold upd
  rw [if_neg (by intro e; subst e; rw [hb] at hx; cases hx)]; exact hx

theorem swap {cl : Nat → Nat} {x i : Nat} (hsw : swapOk ops cl x i = true) {K : Fr → AH → Prop} (hK : Closed K) {fr : Fr} {σ : AH} (hl : Live B ro σ)
    (h : D1 P B ro N ops cl x (D1 P B ro N ops cl i K) fr σ) : D1 P B ro N ops cl i (D1 P B ro N ops cl x K) fr σ := by
  unfold swapOk at hsw
  split at hsw
  case h_2 => cases hsw
  rename_i ox oi hx hi
  simp only [Bool.and_eq_true, Bool.or_eq_true, beq_iff_eq] at hsw
  obtain ⟨⟨⟨ha, hsx⟩, hsi⟩, hcl⟩ := hsw
  obtain ⟨hxi, hne, hix⟩ := Oper.apart_spec ha
  have flip : ∀ v u fr σ, K (putF oi.dst u (putF ox.dst v fr)) σ → K (putF ox.dst v (putF oi.dst u fr)) σ := fun v u fr σ hk => hK _ _ _ (put_swap ha v u fr) hk
  by_cases vx : isVal cl x
  · -- x gives a value and turns nothing
    obtain ⟨h0, u, h1, h2⟩ := (D1_val hx vx).1 h
    by_cases vi : isVal cl i
    · obtain ⟨k0, u', k1, k2⟩ := (D1_val hi vi).1 h2
      exact (D1_val hi vi).2 ⟨k0, u', k1.past hsi hxi, (D1_val hx vx).2 ⟨h0, u, h1.under hsx hix, flip _ _ _ _ k2⟩⟩
    · by_cases c1 : cl i = 1
      · obtain ⟨k0, hg, ob, mk, k1, k2⟩ := (D1_new hi c1).1 h2
        exact (D1_new hi c1).2 ⟨k0, hg, ob, mk, k1.past hsi hxi, fun b hb hs => (D1_val hx vx).2 ⟨h0, u, (h1.under hsx hix).mono (srcOf_mono (HLe.upd' hs ob)), flip _ _ _ _ (k2 b hb hs)⟩⟩
      · have e0 : cl i ≠ 0 := fun e => vi (.inl e)
        have e3 : cl i ≠ 3 := fun e => vi (.inr e)
        have cx : cl x = 0 := by
          rcases hcl with ((h | h) | h) | h
          · exact h
          · exact absurd h e0
          · exact absurd h c1
          · exact absurd h.2 e3
        refine (D1_gen hi e0 c1 e3).2 ?_
        refine AStep.past hsi hxi (fun v σ' hk => ?_) ((D1_gen hi e0 c1 e3).1 h2)
        refine (D1_val hx vx).2 ⟨h0, u, ?_, flip _ _ _ _ hk⟩
        have : srcOf cl x σ' = srcOf cl x σ := by simp [srcOf, cx]
        rw [this]; exact h1.under hsx hix
  · have x0 : cl x ≠ 0 := fun e => vx (.inl e)
    have x3 : cl x ≠ 3 := fun e => vx (.inr e)
    by_cases c0 : cl i = 0
    · -- i only computes
      have vi : isVal cl i := .inl c0
      have src : ∀ σ, srcOf cl i σ = none' := fun σ => by simp [srcOf, c0]
      by_cases cx : cl x = 1
      · obtain ⟨h0, hg, ob, mk, h1, h2⟩ := (D1_new hx cx).1 h
        obtain ⟨b0, hb0, hs0⟩ := hl.fresh
        obtain ⟨k0, u', k1, _⟩ := (D1_val hi vi).1 (h2 b0 hb0 hs0)
        rw [src] at k1
        have k1' := k1.past hsi hxi
        refine (D1_val hi vi).2 ⟨k0, u', by rw [src]; exact k1', (D1_new hx cx).2 ⟨h0, hg, ob, mk, h1.under hsx hix, fun b hb hs => ?_⟩⟩
        obtain ⟨_, u2, m1, m2⟩ := (D1_val hi vi).1 (h2 b hb hs)
        rw [src] at m1
        obtain rfl := (m1.past hsi hxi).uniq k1'
        exact flip _ _ _ _ m2
      · have hg := (D1_gen hx x0 cx x3).1 h
        obtain ⟨v, σ', e0⟩ := hg.nonempty hl
        obtain ⟨k0, u', k1, _⟩ := (D1_val hi vi).1 e0
        rw [src] at k1
        have k1' := k1.past hsi hxi
        refine (D1_val hi vi).2 ⟨k0, u', by rw [src]; exact k1', (D1_gen hx x0 cx x3).2 ?_⟩
        refine hg.under hsx hix fun v σ' e1 => ?_
        obtain ⟨_, u2, m1, m2⟩ := (D1_val hi vi).1 e1
        rw [src] at m1
        obtain rfl := (m1.past hsi hxi).uniq k1'
        exact flip _ _ _ _ m2
    · have c1 : cl i = 1 := by
        rcases hcl with ((h | h) | h) | h
        · exact absurd h x0
        · exact absurd h c0
        · exact h
        · exact absurd h.1 x3
      by_cases cx : cl x = 1
      · obtain ⟨h0, hg, ob, mk, h1, h2⟩ := (D1_new hx cx).1 h
        obtain ⟨b0, hb0, hs0⟩ := hl.fresh
        obtain ⟨k0, kg, ob', mk', k1, _⟩ := (D1_new hi c1).1 (h2 b0 hb0 hs0)
        have k1' := k1.past hsi hxi
        refine (D1_new hi c1).2 ⟨k0, kg, ob', mk', k1', fun b hb hs => (D1_new hx cx).2 ⟨h0, hg, ob, mk, h1.under hsx hix, fun c hc hsc => ?_⟩⟩
        obtain ⟨hcb, hsc'⟩ := upd_none hsc
        obtain ⟨_, _, ob2, mk2, m1, m2⟩ := (D1_new hi c1).1 (h2 c hc hsc')
        obtain ⟨rfl, rfl⟩ := (m1.past hsi hxi).uniq k1'
        rw [upd_comm (fun q => hcb q.symm)]
        exact flip _ _ _ _ (m2 b hb (upd_other (fun q => hcb q.symm) hs))
      · have hg := (D1_gen hx x0 cx x3).1 h
        obtain ⟨v, σ', e0⟩ := hg.nonempty hl
        obtain ⟨k0, kg, ob', mk', k1, _⟩ := (D1_new hi c1).1 e0
        have k1' := k1.past hsi hxi
        refine (D1_new hi c1).2 ⟨k0, kg, ob', mk', k1', fun b hb hs => (D1_gen hx x0 cx x3).2 ?_⟩
        rw [upd_single hs]
        refine (hg.frame (Disj.single hs ob')).under hsx hix fun v σ2 e1 => ?_
        obtain ⟨τ, rfl, hdj, e1⟩ := e1
        obtain ⟨_, _, ob2, mk2, m1, m2⟩ := (D1_new hi c1).1 e1
        obtain ⟨rfl, rfl⟩ := (m1.past hsi hxi).uniq k1'
        have hτ : τ b = none := by
          cases e : τ b with
          | none => rfl
          | some y => have := hdj b y e; simp [single] at this
        rw [← upd_single hτ]
        exact flip _ _ _ _ (m2 b hb hτ)

theorem extract {cl : Nat → Nat} {K : Fr → AH → Prop} (hK : Closed K) {i : Nat} (post : List Nat) : ∀ (pre : List Nat) {fr : Fr} {σ : AH}, (∀ x ∈ pre, swapOk ops cl x i = true) → Live B ro σ →
    DOps P B ro N ops cl K (pre ++ i :: post) fr σ → DOps P B ro N ops cl K (i :: (pre ++ post)) fr σ := by
  intro pre
  induction pre with
  | nil => intro fr σ _ _ h; exact h
  | cons x pre ih =>
    intro fr σ hs hl h
    have h2 : D1 P B ro N ops cl x (DOps P B ro N ops cl K (i :: (pre ++ post))) fr σ := D1.mono hl (fun fr σ hl h => ih (fun y hy => hs y (List.mem_cons_of_mem _ hy)) hl h) h
    exact swap (hs x (List.mem_cons_self ..)) (DOps.closed hK _) hl h2

/-! the edges -/
def bound (o : Oper) : List Nat := (o.after.toList.filter fun e => Region.binds .any e).map (·.on)
def edgesOf (ops : Array Oper) (i : Nat) : List Nat := match ops[i]? with | some o => bound o | none => []
/-- 'anc': pairs that are ordered through others: each is held by an edge. -/
def ancOk (ops : Array Oper) (anc : List (Nat × Nat)) : Bool := anc.all fun p => (edgesOf ops p.2).any fun e => e == p.1 || anc.contains (p.1, e)
def chk (ops : Array Oper) (cl : Nat → Nat) (anc : List (Nat × Nat)) : List Nat → Bool
  | [] => true
  | x :: rest => (edgesOf ops x).all (fun e => e < x && !(x :: rest).contains e) && !rest.contains x && decide (x < ops.size) &&
      rest.all (fun i => swapOk ops cl x i || (edgesOf ops i).contains x || anc.contains (x, i)) && chk ops cl anc rest
def full (n : Nat) (l : List Nat) : Bool := (List.range n).all fun i => l.contains i

theorem ready_iff {listed : Array Bool} {i : Nat} : i ∈ Region.ready .any ops listed ↔ i < ops.size ∧ listed.getD i true = false ∧ ∃ o, ops[i]? = some o ∧ ∀ e ∈ bound o, listed.getD e false = true := by
  unfold Region.ready bound
  simp only [List.mem_filter, List.mem_range, Bool.and_eq_true, Bool.not_eq_true', List.mem_map, forall_exists_index, and_imp]
  constructor
  · rintro ⟨h1, h2, h3⟩
    cases ho : ops[i]? with
    | none => rw [ho] at h3; simp at h3
    | some o =>
      rw [ho] at h3
      simp only [Option.map_some, Option.getD_some, Array.all_eq_true', Bool.or_eq_true, Bool.not_eq_true'] at h3
      refine ⟨h1, h2, o, rfl, ?_⟩
      rintro x e he hb rfl
      rcases h3 e (by simpa using he) with h | h
      · rw [hb] at h; cases h
      · exact h
  · rintro ⟨h1, h2, o, ho, h3⟩
    refine ⟨h1, h2, ?_⟩
    rw [ho]
    simp only [Option.map_some, Option.getD_some, Array.all_eq_true', Bool.or_eq_true, Bool.not_eq_true']
    intro e he
    cases hb : Region.binds .any e with
    | false => exact .inl rfl
    | true => exact .inr (h3 e.on e (by simpa using he) hb rfl)

theorem anc_listed {anc : List (Nat × Nat)} (ha : ancOk ops anc = true) (hlt : ∀ i, ∀ e ∈ edgesOf ops i, e < i) {L : Nat → Prop} (hc : ∀ i, L i → ∀ e ∈ edgesOf ops i, L e) (x : Nat) :
    ∀ i, (∀ e ∈ edgesOf ops i, L e) → (x, i) ∈ anc → L x := by
  intro i
  induction i using Nat.strongRecOn with
  | _ i ih =>
    intro hi hm
    have := List.all_eq_true.1 ha _ hm
    obtain ⟨e, he, h⟩ := List.any_eq_true.1 this
    simp only [Bool.or_eq_true, beq_iff_eq, List.contains_iff_mem] at h
    have hle := hi e he
    rcases h with h | h
    · rw [← h]; exact hle
    · exact ih e (hlt i e he) (hc e hle) h

theorem chk_lt {cl : Nat → Nat} {anc : List (Nat × Nat)} {l : List Nat} (h : chk ops cl anc l = true) : ∀ i ∈ l, i < ops.size ∧ ∀ e ∈ edgesOf ops i, e < i := by
  induction l with
  | nil => intro i hi; cases hi
  | cons x rest ih =>
    simp only [chk, Bool.and_eq_true, decide_eq_true_eq] at h
    obtain ⟨⟨⟨⟨h1, h2⟩, h3⟩, h4⟩, h5⟩ := h
    intro i hi
    rcases List.mem_cons.1 hi with rfl | hi
    · refine ⟨h3, fun e he => ?_⟩
      have := List.all_eq_true.1 h1 e he
      simp only [Bool.and_eq_true, decide_eq_true_eq] at this
      exact this.1
    · exact ih h5 i hi

theorem drawn_sound {cl : Nat → Nat} {anc : List (Nat × Nat)} (ha : ancOk ops anc = true) (hlt : ∀ i, ∀ e ∈ edgesOf ops i, e < i) {Q : Exit → Fr → AH → Prop} (hK : Closed (Q .normal)) {φ : AH} :
    ∀ (n : Nat) (l : List Nat) (listed : Array Bool) {fr : Fr} {σ : AH} {a : Act} {w : World}, l.length = n → listed.size = ops.size → chk ops cl anc l = true →
      (∀ i, i < ops.size → (listed.getD i true = false ↔ i ∈ l)) → (∀ i, i < ops.size → i ∉ l → ∀ e ∈ edgesOf ops i, e ∉ l) →
      DOps P B ro N ops cl (Q .normal) l fr σ → Own B ro φ σ w → Fits N fr a → wpAny P .any ops (lift B ro N φ Q) n listed a w := by
  intro n
  induction n with
  | zero =>
    intro l listed fr σ a w hn hsz hc hli hcl h ho hf
    obtain rfl : l = [] := List.length_eq_zero_iff.1 hn
    refine ⟨?_, fr, σ, h, ho, hf⟩
    cases hr : Region.ready .any ops listed with
    | nil => rfl
    | cons i r =>
      have hm : i ∈ Region.ready .any ops listed := by rw [hr]; exact List.mem_cons_self ..
      obtain ⟨h1, h2, _⟩ := ready_iff.1 hm
      exact absurd ((hli i h1).1 h2) (by simp)
  | succ n ih =>
    intro l listed fr σ a w hn hsz hc hli hcl h ho hf
    have hlist : ∀ e, e < ops.size → e ∉ l → listed.getD e false = true := by
      intro e he hne
      have h1 : ¬ listed.getD e true = false := fun q => hne ((hli e he).1 q)
      have hlt' : e < listed.size := by omega
      simp only [Array.getD_eq_getD_getElem?, Array.getElem?_eq_getElem hlt', Option.getD_some] at h1 ⊢
      simpa using h1
    refine ⟨?_, ?_⟩
    · intro hr
      exfalso
      cases l with
      | nil => simp at hn
      | cons x rest =>
        have hx := chk_lt hc x (List.mem_cons_self ..)
        have : x ∈ Region.ready .any ops listed := by
          refine ready_iff.2 ⟨hx.1, (hli x hx.1).2 (List.mem_cons_self ..), ops[x], by simp [hx.1], ?_⟩
          intro e he
          have he' : e ∈ edgesOf ops x := by simp [edgesOf, hx.1]; exact he
          simp only [chk, Bool.and_eq_true] at hc
          have h1 := List.all_eq_true.1 hc.1.1.1.1 e he'
          simp only [Bool.and_eq_true, decide_eq_true_eq, Bool.not_eq_true', List.contains_iff_mem, ← Bool.not_eq_true] at h1
          exact hlist e (by have := h1.1; omega) h1.2
        rw [hr] at this; cases this
    · intro i hi
      obtain ⟨h1, h2, o, hoi, h3⟩ := ready_iff.1 hi
      have hil := (hli i h1).1 h2
      obtain ⟨pre, post, rfl⟩ := List.append_of_mem hil
      have hedge : ∀ e ∈ edgesOf ops i, e ∉ pre ++ i :: post := by
        intro e he hm
        have he2 : e ∈ bound o := by simpa [edgesOf, hoi] using he
        have h4 := h3 e he2
        have hlt' := (chk_lt hc e hm).1
        have := (hli e hlt').2 hm
        have hs : e < listed.size := by omega
        simp only [Array.getD_eq_getD_getElem?, Array.getElem?_eq_getElem hs, Option.getD_some] at this h4
        rw [this] at h4; cases h4
      -- all that stand ahead of i may be passed
      have hpass : ∀ x ∈ pre, swapOk ops cl x i = true := by
        have gen : ∀ (p : List Nat), chk ops cl anc (p ++ i :: post) = true → ∀ x ∈ p, swapOk ops cl x i = true ∨ x ∈ edgesOf ops i ∨ (x, i) ∈ anc := by
          intro p
          induction p with
          | nil => intro _ x hx; cases hx
          | cons y p ihp =>
            intro hc x hx
            simp only [List.cons_append, chk, Bool.and_eq_true] at hc
            rcases List.mem_cons.1 hx with rfl | hx
            · have := List.all_eq_true.1 hc.1.2 i (by simp)
              simp only [Bool.or_eq_true, List.contains_iff_mem] at this
              rcases this with (h | h) | h
              · exact .inl h
              · exact .inr (.inl h)
              · exact .inr (.inr h)
            · exact ihp hc.2 x hx
        intro x hx
        have hxm : x ∈ pre ++ i :: post := List.mem_append_left _ hx
        rcases gen pre hc x hx with h | h | h
        · exact h
        · exact absurd hxm (hedge x h)
        · have hcl' : ∀ j, (j < ops.size → j ∉ pre ++ i :: post) → ∀ e ∈ edgesOf ops j, (e < ops.size → e ∉ pre ++ i :: post) := by
            intro j hj e he hes
            by_cases hjs : j < ops.size
            · exact hcl j hjs (hj hjs) e he
            · simp [edgesOf, Array.getElem?_eq_none (Nat.le_of_not_lt hjs)] at he
          exact absurd hxm (anc_listed (L := fun j => j < ops.size → j ∉ pre ++ i :: post) ha hlt hcl' x i (fun e he _ => hedge e he) h (chk_lt hc x hxm).1)
      have hd := extract (P := P) (B := B) (N := N) hK post pre hpass ⟨φ, w, ho⟩ h
      -- the list that is left
      have hnd : i ∉ pre ++ post := by
        have : (pre ++ i :: post).Nodup := by
          have gen : ∀ l : List Nat, chk ops cl anc l = true → l.Nodup := by
            intro l
            induction l with
            | nil => intro _; exact List.nodup_nil
            | cons y r ihr =>
              intro hc
              simp only [chk, Bool.and_eq_true, Bool.not_eq_true'] at hc
              refine List.nodup_cons.2 ⟨?_, ihr hc.2⟩
              have := hc.1.1.1.2
              intro hm; rw [List.contains_iff_mem.2 hm] at this; cases this
          exact gen _ hc
        have := (List.perm_middle (a := i) (l₁ := pre) (l₂ := post)).nodup_iff.1 this
        exact (List.nodup_cons.1 this).1
      have hc' : chk ops cl anc (pre ++ post) = true := by
        have gen : ∀ (p : List Nat), chk ops cl anc (p ++ i :: post) = true → chk ops cl anc (p ++ post) = true := by
          intro p
          induction p with
          | nil => intro hc; simp only [List.nil_append, chk, Bool.and_eq_true] at hc; exact hc.2
          | cons y p ihp =>
            intro hc
            simp only [List.cons_append, chk, Bool.and_eq_true] at hc ⊢
            obtain ⟨⟨⟨⟨c1, c2⟩, c3⟩, c4⟩, c5⟩ := hc
            refine ⟨⟨⟨⟨?_, ?_⟩, c3⟩, ?_⟩, ihp c5⟩
            · refine List.all_eq_true.2 fun e he => ?_
              have := List.all_eq_true.1 c1 e he
              simp only [Bool.and_eq_true, Bool.not_eq_true', ← Bool.not_eq_true, List.contains_iff_mem] at this ⊢
              refine ⟨this.1, fun hm => this.2 ?_⟩
              simp only [List.mem_cons, List.mem_append] at hm ⊢
              rcases hm with h | h | h
              · exact .inl h
              · exact .inr (.inl h)
              · exact .inr (.inr (.inr h))
            · simp only [Bool.not_eq_true', ← Bool.not_eq_true, List.contains_iff_mem] at c2 ⊢
              intro hm; apply c2
              simp only [List.mem_append, List.mem_cons] at hm ⊢
              exact hm.imp id .inr
            · refine List.all_eq_true.2 fun j hj => List.all_eq_true.1 c4 j ?_
              simp only [List.mem_append, List.mem_cons] at hj ⊢
              exact hj.imp id .inr
        exact gen pre hc
      have hmem : ∀ j, j ∈ pre ++ post ↔ j ∈ pre ++ i :: post ∧ j ≠ i := by
        intro j
        simp only [List.mem_append, List.mem_cons]
        constructor
        · intro (hh : j ∈ pre ∨ j ∈ post)
          refine ⟨hh.imp id .inr, fun e => ?_⟩
          subst e; exact hnd (List.mem_append.2 hh)
        · rintro ⟨h | h | h, hne⟩
          · exact .inl h
          · exact absurd h hne
          · exact .inr h
      have hlen : (pre ++ post).length = n := by simp at hn ⊢; omega
      have hset : ∀ j, j < ops.size → ((listed.setIfInBounds i true).getD j true = false ↔ j ∈ pre ++ post) := by
        intro j hj
        rw [hmem]
        by_cases e : j = i
        · subst e
          have : j < listed.size := by omega
          simp [Array.getD_eq_getD_getElem?, this]
        · rw [Region_getD_set e]
          constructor
          · intro h; exact ⟨(hli j hj).1 h, e⟩
          · intro h; exact (hli j hj).2 h.1
      have hcl2 : ∀ j, j < ops.size → j ∉ pre ++ post → ∀ e ∈ edgesOf ops j, e ∉ pre ++ post := by
        intro j hj hjn e he hm
        have hm' := ((hmem e).1 hm).1
        by_cases e' : j = i
        · subst e'; exact hedge e he hm'
        · exact hcl j hj (fun hh => hjn ((hmem j).2 ⟨hh, e'⟩)) e he hm'
      have kont : ∀ fr σ a w, DOps P B ro N ops cl (Q .normal) (pre ++ post) fr σ → Own B ro φ σ w → Fits N fr a → wpAny P .any ops (lift B ro N φ Q) n (listed.setIfInBounds i true) a w :=
        fun fr σ a w hk ho hf => ih (pre ++ post) _ hlen (by simpa using hsz) hc' hset hcl2 hk ho hf
      exact D1.sound hoi hd ho hf kont
where
  Region_getD_set {listed : Array Bool} {i j : Nat} (h : j ≠ i) : (listed.setIfInBounds i true).getD j true = listed.getD j true := by
    simp only [Array.getD_eq_getD_getElem?]
    rw [Array.getElem?_setIfInBounds, if_neg (fun q => h q.symm)]
  D1.sound {cl : Nat → Nat} {i : Nat} {o : Oper} (hoi : ops[i]? = some o) {K : Fr → AH → Prop} {fr : Fr} {σ φ : AH} {a : Act} {w : World} {Q' : Exit → Act → World → Prop} {next : Act → World → Prop}
      (h : D1 P B ro N ops cl i K fr σ) (ho : Own B ro φ σ w) (hf : Fits N fr a) (hk : ∀ fr σ a w, K fr σ → Own B ro φ σ w → Fits N fr a → next a w) : wpOp P ops Q' i next a w := by
    have step : AStep P B ro N ops o K fr σ → wpOp P ops Q' i next a w := by
      rintro ⟨hd, h⟩
      unfold wpOp
      rw [hoi]
      dsimp only
      cases hg : o.guard with
      | none =>
        rw [hg] at h
        rw [if_pos (by simp [Region.wanted, hg])]
        exact .inl (AExec.sound h hd ho hf hk)
      | some g =>
        obtain ⟨j, want⟩ := g
        rw [hg] at h
        obtain ⟨t, v, ht, hl, h⟩ := h
        have hy := yielded_eq hf ht hl
        rcases h with ⟨rfl, h⟩ | ⟨hv, h⟩
        · rw [if_pos (by simp [Region.wanted, hg, hy])]
          exact .inl (AExec.sound h hd ho hf hk)
        · rw [if_neg (by
            simp only [Region.wanted, hg, hy]
            cases v <;> simp
            rename_i b; intro e; subst e; exact hv rfl)]
          exact hk _ _ _ _ h ho (hf.put hd undef)
    have val : ∀ τ, HLe τ σ → dstOk N o.dst = true → ∀ u, RVal P ro τ ops o fr u → K (putF o.dst u fr) σ → wpOp P ops Q' i next a w := by
      intro τ hle h0 u h1 h2
      refine step ⟨h0, ?_⟩
      have pe : ReadEv P ro τ o fr u → AExec P B ro o K fr σ := fun he ρ hρ => awp_at_aread _ (aread_mono _ hle (he ρ hρ)) h2
      unfold RVal at h1
      split at h1
      · rename_i hg; rw [hg]; exact pe h1
      · rename_i hg
        rw [hg]
        obtain ⟨t, v, g1, g2, g3⟩ := h1
        refine ⟨t, v, g1, g2, g3.imp (fun ⟨a, b⟩ => ⟨a, pe b⟩) ?_⟩
        rintro ⟨a, rfl⟩; exact ⟨a, h2⟩
    unfold D1 at h
    rw [hoi] at h
    dsimp only at h
    split at h
    · obtain ⟨h0, u, h1, h2⟩ := h
      exact val none' (fun _ _ e => by cases e) h0 u h1 h2
    · obtain ⟨h0, u, h1, h2⟩ := h
      exact val σ (HLe.refl _) h0 u h1 h2
    · obtain ⟨h0, hg, ob, mk, h1, h2⟩ := h
      refine step ⟨h0, ?_⟩
      rw [hg]
      intro ρ hρ
      obtain ⟨k, k1, k2⟩ := h1 ρ hρ
      exact (awp_of_newOf _ k1).2 fun b hb hs => (awp_of_aread _ (k2 b)).2 (h2 b hb hs)
    · exact step h

/-- A region that draws its order, proved in the order 'l': 'cl' tells the kind of each operation (0: it reads what is lent, or nothing; 1: it makes memory; 2: any other). 'ψ' is lent while the region runs. -/
theorem AW.drawn {id : Nat} {Q : Exit → Fr → AH → Prop} {fr : Fr} {ψ σ : AH} (cl : Nat → Nat) (anc : List (Nat × Nat)) (l : List Nat) (hm : P.follows .mixedOrders = true) (hd : Disj ψ σ)
    (hc : (chk ops cl anc l && ancOk ops anc && full ops.size l && (l.length == ops.size)) = true)
    (h : DOps P B (join ro ψ) N ops cl (fun fr σ => ∃ fr', FrEq fr' fr ∧ (Disj ψ σ → Q .normal fr' (join ψ σ))) l fr σ) : AW P B ro N (.region id ops true) Q fr (join ψ σ) := by
  simp only [Bool.and_eq_true, beq_iff_eq] at hc
  obtain ⟨⟨⟨c1, c2⟩, c3⟩, c4⟩ := hc
  intro φ w a ho hf
  refine wp_region_any hm ?_
  have hp : ∀ b o, ψ b = some o → φ b = none ∧ ro b = none := fun b o hs => (ho.own b o (join_left hs)).2
  have hall : ∀ i, i < ops.size → i ∈ l := fun i hi => List.contains_iff_mem.1 (List.all_eq_true.1 c3 i (List.mem_range.2 hi))
  have hlt : ∀ i, ∀ e ∈ edgesOf ops i, e < i := by
    intro i e he
    by_cases hi : i < ops.size
    · exact (chk_lt c1 i (hall i hi)).2 e he
    · simp [edgesOf, Array.getElem?_eq_none (Nat.le_of_not_lt hi)] at he
  have hw : Own B (join ro ψ) φ σ { w with drawn := w.drawn + 1 } := (ho.lend hd).drawn _
  have := drawn_sound (P := P) (B := B) (ro := join ro ψ) (N := N) (ops := ops) (cl := cl) (anc := anc) c2 hlt
    (Q := fun e fr σ => e = .normal ∧ ∃ fr', FrEq fr' fr ∧ (Disj ψ σ → Q .normal fr' (join ψ σ)))
    (fun fr fr' σ he ⟨h0, fr2, h1, h2⟩ => ⟨h0, fr2, fun i => (h1 i).trans (he i), h2⟩) (φ := φ) ops.size l (Array.replicate ops.size false)
    (w := { w with drawn := w.drawn + 1 }) (a := a) (fr := fr) (σ := σ) c4 (by simp) c1
    (fun i hi => ⟨fun _ => hall i hi, fun _ => by simp [hi]⟩) (fun i hi hn => absurd (hall i hi) hn) ?_ hw hf
  · refine wpAny_post ?_ _ _ this
    rintro e a' w' ⟨fr', σ', ⟨rfl, fr2, he, hq⟩, ho', hf'⟩
    obtain ⟨g1, g2⟩ := ho'.unlend hp
    exact ⟨fr2, _, hq g2, g1, ⟨hf'.size, hf'.defers, fun i v hi => hf'.has i v (by rw [← he i]; exact hi)⟩⟩
  · refine DOps_post ?_ l h
    intro fr σ hk; exact ⟨rfl, hk⟩
where
  LetsOut_post {Q Q' : Exit → Act → World → Prop} (h : ∀ e a w, Q e a w → Q' e a w) : LetsOut Q → LetsOut Q' := fun ⟨a, w, q⟩ => ⟨a, w, h _ _ _ q⟩
  wpOp_post {Q Q' : Exit → Act → World → Prop} (h : ∀ e a w, Q e a w → Q' e a w) {i : Nat} {K K' : Act → World → Prop} (hk : ∀ a w, K a w → K' a w) {a : Act} {w : World} (hx : wpOp P ops Q i K a w) : wpOp P ops Q' i K' a w := by
    unfold wpOp at *
    split
    · exact hk _ _ (by simpa [*] using hx)
    · rename_i o ho'
      simp only [ho'] at hx
      split
      · rename_i hw'; simp only [hw', if_true] at hx
        refine hx.imp ?_ (fun ⟨p, q⟩ => ⟨p, LetsOut_post h q⟩)
        intro hx
        unfold Oper.wp at *
        generalize (execOp a.eval o).run P w = r at *
        cases r with
        | ok n w' =>
          cases n <;> simp only [Oper.upon] at hx ⊢ <;>
            first
              | exact hk _ _ hx
              | exact Calls.mono hx (fun e w'' he => by cases e <;> first | exact hk _ _ he | exact h _ _ _ he | exact LetsOut_post h he)
              | exact Rows.mono hx (fun _ _ he => hk _ _ he)
        | halt x w' => cases x <;> simp only [Oper.upon] at hx ⊢ <;> first | exact h _ _ _ hx | exact hx
      · rename_i hw'; simp only [hw'] at hx; exact hk _ _ hx
  wpAny_post {Q Q' : Exit → Act → World → Prop} (h : ∀ e a w, Q e a w → Q' e a w) : ∀ (n : Nat) (listed : Array Bool) {a : Act} {w : World}, wpAny P .any ops Q n listed a w → wpAny P .any ops Q' n listed a w := by
    intro n
    induction n with
    | zero => intro listed a w hx; exact ⟨hx.1, h _ _ _ hx.2⟩
    | succ n ih => intro listed a w hx; exact ⟨fun e => h _ _ _ (hx.1 e), fun i hi => wpOp_post h (fun a w => ih _) (hx.2 i hi)⟩
  DOps_post {ro : AH} {cl : Nat → Nat} {K K' : Fr → AH → Prop} (h : ∀ fr σ, K fr σ → K' fr σ) : ∀ (l : List Nat) {fr : Fr} {σ : AH}, DOps P B ro N ops cl K l fr σ → DOps P B ro N ops cl K' l fr σ := by
    intro l
    induction l with
    | nil => intro fr σ hx; exact h _ _ hx
    | cons i r ih =>
      intro fr σ hx
      unfold DOps D1 at hx ⊢
      split at hx
      · exact hx
      · split at hx
        · obtain ⟨h0, u, h1, h2⟩ := hx; exact ⟨h0, u, h1, ih h2⟩
        · obtain ⟨h0, u, h1, h2⟩ := hx; exact ⟨h0, u, h1, ih h2⟩
        · obtain ⟨h0, hg, ob, mk, h1, h2⟩ := hx; exact ⟨h0, hg, ob, mk, h1, fun b hb hs => ih (h2 b hb hs)⟩
        · exact hx.mono fun fr σ => ih
end
end Go.Proofs.YthfpmipeejjogaaGreatDoor.SL
