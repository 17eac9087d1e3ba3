/- Strings as lists of bytes; calls that leave memory as it is. Generic over any program. -/
import Derived.Test.YthfpmipeejjogaaGreatDoorMem
import Derived.Lib.Split
namespace Go.Proofs.YthfpmipeejjogaaGreatDoor.SL
open Go
set_option linter.unusedSimpArgs false
variable {P : Program} {B : World} {ro σ σ' : AH} {tag tag' : Nat → Nat}

abbrev Str := List UInt8
def S (l : Str) : ByteArray := ⟨l.toArray⟩
def L (s : ByteArray) : Str := s.data.toList
@[simp] theorem L_S (l : Str) : L (S l) = l := rfl
@[simp] theorem S_L (s : ByteArray) : S (L s) = s := by cases s; rfl
theorem L_inj {a b : ByteArray} (h : L a = L b) : a = b := by rw [← S_L a, h, S_L]
theorem S_inj {a b : Str} : S a = S b ↔ a = b := ⟨fun h => by have := congrArg L h; simpa using this, fun h => by rw [h]⟩
@[simp] theorem S_size (l : Str) : (S l).size = l.length := rfl
theorem L_len (s : ByteArray) : (L s).length = s.size := rfl
theorem L_append (a b : ByteArray) : L (a ++ b) = L a ++ L b := by
  unfold L; rw [ByteArray.data_append, Array.toList_append]
theorem S_append (a b : Str) : S a ++ S b = S (a ++ b) := L_inj (by rw [L_append]; rfl)
theorem S_extract (l : Str) (i j : Nat) : (S l).extract i j = S ((l.take j).drop i) := by
  apply L_inj
  have := Go.Lib.extract_data (S l) i j
  show ((S l).extract i j).data.toList = _
  rw [this]
  simp [S, L, List.drop_take]
theorem S_ext (s : ByteArray) (a b : Nat) : s.extract a b = S (((L s).take b).drop a) := by
  conv => lhs; rw [← S_L s]
  rw [S_extract]
theorem S_get (l : Str) (i : Nat) : (S l)[i]? = l[i]? := by
  by_cases h : i < l.length
  · rw [List.getElem?_eq_getElem h]
    rw [getElem?_pos (S l) i h]
    rfl
  · rw [List.getElem?_eq_none (by omega), getElem?_neg (S l) i h]

/-- a call that reads no memory and writes none: all that was owned is as it was -/
theorem ACalls.quiet {f : FuncId} {args : Array Value} {R : Value → Prop} {Q : Value → AH → Prop} (h : ACalls P B ro f args (fun _ => none) fun v _ => R v) (hq : ∀ v, R v → Q v σ) : ACalls P B ro f args σ Q := by
  have e : join (fun _ => none) σ = σ := by funext b; rfl
  have := ACalls.frame h (ψ := σ) (fun b o h => by cases h)
  rw [e] at this
  refine this.drop ?_
  rintro v σ' ⟨τ, rfl, hd, hr⟩
  exact ⟨σ, fun b o h => join_right hd h, hq v hr⟩

/-- what memory says, in every world that has it -/
def Sees (ro σ : AH) (w : World) : Prop := ∀ b o, rd ro σ b = some o → w.heap[b]? = some o
/-- new memory of a world -/
def News (w w' : World) (N : AH) : Prop := ∀ b o, N b = some o → w.heap.size ≤ b ∧ w'.heap[b]? = some o
theorem ACalls.of_calls {f : FuncId} {args : Array Value} {Q : Value → AH → Prop}
    (h : ∀ w, Sees ro σ w → Sep ro σ → Calls P f args w fun e w' => ∃ v N, e = .returned v ∧ Go.RowKit.Below w.heap.size w w' ∧ News w w' N ∧ Q v (join σ N)) : ACalls P B ro f args σ Q := by
  intro φ w ho
  refine (h w (fun b o hr => ho.rd hr) ho.sep).mono ?_
  rintro e w' ⟨v, N, he, hb, hn, hq⟩
  have lt : ∀ b o, w.heap[b]? = some o → w'.heap[b]? = some o ∧ N b = none := fun b o hbo => by
    have hlt := lt_of_block hbo
    refine ⟨by rw [hb.block b hlt]; exact hbo, ?_⟩
    cases hN : N b with
    | none => rfl
    | some o' => have := (hn b o' hN).1; omega
  refine ⟨v, _, he, hq, hb.os.trans ho.os, hb.tape.trans ho.tape, hb.output.trans ho.output, fun b o hj => ?_, fun b o hf => (lt b o (ho.fr b o hf)).1, fun b o hf => (lt b o (ho.ro b o hf)).1⟩
  rcases join_some hj with h1 | ⟨_, h1⟩
  · obtain ⟨h2, h3, h4⟩ := ho.own b o h1
    exact ⟨(lt b o h2).1, h3, h4⟩
  · obtain ⟨h2, h3⟩ := hn b o h1
    refine ⟨h3, ?_, ?_⟩
    · cases hf : φ b with
      | none => rfl
      | some o' => have := lt_of_block (ho.fr b o' hf); omega
    · cases hf : ro b with
      | none => rfl
      | some o' => have := lt_of_block (ho.ro b o' hf); omega
/-- one new row -/
theorem new_row {w w' : World} {g : Nat} {cs : Array Value} {e : TypeId} (r : Nat) (hs : Sees ro σ w) (hsep : Sep ro σ) (hg : w.heap.size ≤ g) (hw : w'.heap[g]? = some (.cells cs e)) :
    ∃ N tag', News w w' N ∧ (∀ R, Step R ro tag σ tag' (join σ N)) ∧ ∀ n c (l : List Value), n = l.length → c = cs.size → n ≤ c → cs.toList.take n = l → Row tag' (join σ N) r e ⟨some ⟨g, 0, none⟩, n, c⟩ l := by
  have hσ : σ g = none := by
    cases h : σ g with
    | none => rfl
    | some o => have := lt_of_block (hs g o (by unfold rd; rw [hsep g o h]; exact h)); omega
  have hro : ro g = none := by
    cases h : ro g with
    | none => rfl
    | some o => have := lt_of_block (hs g o (by unfold rd; rw [h])); omega
  have e1 : join σ (fun b => if b = g then some (.cells cs e) else none) = upd σ g (.cells cs e) := by
    funext b; unfold join upd
    by_cases h : b = g
    · subst h; simp [hσ]
    · simp [h]; cases σ b <;> rfl
  refine ⟨fun b => if b = g then some (.cells cs e) else none, setTag tag g r, ?_, ?_, ?_⟩
  · intro b o hb
    simp only at hb
    split at hb
    · rename_i h; subst h; cases hb; exact ⟨hg, hw⟩
    · cases hb
  · intro R; rw [e1]; exact Step.fresh hsep hro hσ
  · rintro n c l rfl rfl hn ht
    rw [e1]
    refine .inr ⟨g, cs, rfl, by simp [setTag], upd_same _ _ _, rfl, rfl, hn, fun i hi => ?_⟩
    have : l[i]? = cs.toList[i]? := by
      conv => lhs; rw [← ht]
      rw [List.getElem?_take, if_pos hi]
    rw [this]; simp
theorem News.none (w w' : World) : News w w' fun _ => none := fun _ _ h => by cases h
end Go.Proofs.YthfpmipeejjogaaGreatDoor.SL
